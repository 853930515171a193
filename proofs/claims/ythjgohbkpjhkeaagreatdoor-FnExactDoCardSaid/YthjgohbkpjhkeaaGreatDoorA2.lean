/- Part 2 of the proof: DoSk, DoAt, FireSpec, ImplNode, FireTree. -/
import Derived.Test.YthjgohbkpjhkeaaGreatDoorA1
import Derived.Test.YthjgohbkpjhkeaaGreatDoorX0
set_option linter.unusedVariables false
set_option linter.unusedSimpArgs false
set_option maxHeartbeats 4000000
set_option maxRecDepth 100000
namespace Go.Proofs.YthjgohbkpjhkeaaGreatDoor.FireSpec
open Go.RowKit Go.Proofs.YthjgohbkpjhkeaaGreatDoorW.PrintWords Go.Proofs.YthjgohbkpjhkeaaGreatDoor.PFnExactDo
def kid (n : S95) : Nat := n.f5.toNat
def skipL (L : Int) : List S95 → Nat → Int → Int
 | _, 0, p => p
 | [], _ + 1, _ => -1
 | n :: ns, m + 1, p => if n.f5 < 0 then -1 else if n.f5 > L then -1 else skipL L ns (kid n + m) (p + 1)
theorem skipL_zero (L : Int) (ns : List S95) (p : Int) : skipL L ns 0 p = p := by unfold skipL; rfl
end Go.Proofs.YthjgohbkpjhkeaaGreatDoor.FireSpec
namespace Go.Proofs.YthjgohbkpjhkeaaGreatDoor.PFnExactDo
open Go.RowKit Go.Proofs.YthjgohbkpjhkeaaGreatDoorW.PrintWords Go.Proofs.YthjgohbkpjhkeaaGreatDoorW.PrintLast Go.Proofs.YthjgohbkpjhkeaaGreatDoorW.PrintMore Go.Proofs.YthjgohbkpjhkeaaGreatDoor.FireSpec
def spec_l3Skip.f (k : Nat) (ns : List S95) (i : Int) : Option Int := if 0 ≤ i ∧ i ≤ ns.length ∧ ns.length < 1073741824 then some (skipL ns.length (ns.drop i.toNat) 1 i) else none
theorem spec_l3Skip.calls (k : Nat) (A : Option Addr) (c : Nat) (ns : List S95) (i0 r : Int) (w : World) (hr : Kd.C k95 w A ns.length ns) (hc : ns.length ≤ c) (h : spec_l3Skip.f k ns i0 = some r) :
  Calls Tryz.prog 65 #[.slice A ns.length c, .int .i64 i0] w fun e w' => e = .returned (.int .i64 r) ∧ Drawn0 w w' := by
 unfold spec_l3Skip.f at h
 split at h
 case isFalse => cases h
 rename_i hi
 obtain ⟨i1, rfl⟩ := Int.eq_ofNat_of_zero_le hi.1
 have HX := am (And.intro hr (Option.some.inj h))
 obtain ⟨big, hbig⟩ : ∃ big : Int, big = 4611686018427387904 := ⟨_, rfl⟩
 have hn : ns.length ≤ 1073741823 := by omega
 have hb9 : big ≤ 4611686018427387904 := by omega
 have hi1 : i1 ≤ ns.length := by omega
 have HBG := am hbig
 clear hr h hi
 go_enter Tryz.func65, Tryz.ntmps65
 go_wp2
 go_loopg [1, 5] (ns.length + 1 - i1) (fun kq v1 v5 wr => ∃ i m : Nat, v1 = .int .i64 i ∧ v5 = .int .i64 m ∧ Aside0 (i + kq = ns.length + 1 ∧ i ≤ ns.length ∧ m ≤ 1 + i * ns.length ∧ skipL ns.length (ns.drop i) m i = r) ∧ wr = w)
 case atStart => exact ⟨i1, 1, rfl, rfl, ⟨by omega, hi1, Nat.le_add_right _ _, HX.out.2⟩, rfl⟩
 case round =>
  obtain ⟨i, m, rfl, rfl, HI, rfl⟩ := hrel
  have hib : (i : Int) < big := by have := HI.out.2.1; omega
  cases m with
  | zero =>
   have HE := am (show (i : Int) = r from by have := HI.out.2.2.2; rwa [skipL_zero] at this)
   clear hn hbig
   go_wp2
   go_ret
   rw [← HE.out]
   exact ⟨rfl, ⟨0, rfl⟩⟩
  | succ m =>
   have hsq : i * ns.length ≤ 1073741823 * 1073741823 := Nat.mul_le_mul (by have := HI.out.2.1; omega) (by omega)
   obtain ⟨M, hM⟩ : ∃ M, m + 1 = M := ⟨_, rfl⟩
   have hmb : (M : Int) ≤ big := by have := HI.out.2.2.1; omega
   have d7 : decide ((M : Int) > 0) = true := decide_eq_true (by omega)
   have d7' : decide (0 < M) = true := decide_eq_true (by omega)
   rw [hM]
   by_cases hlt : i < ns.length
   ·have d11 : decide (ns.length ≤ i) = false := decide_eq_false (by omega)
    have e3 := eq_true (show (0 : Int) ≤ (i : Int) from by omega)
    have e4 := eq_true (show (i : Int) < ns.length from by omega)
    obtain ⟨ad, A3, c3, hA, _, _, _, _, _, hx5, _, _⟩ := at_T95 HX.out.1 (i : Int) (by omega) (by omega)
    subst hA
    rw [show rd_T95 ns (i : Int) = ns[i] from by simp [rd_T95, hlt]] at hx5
    simp only [Int.toNat_natCast] at hx5
    have hdr := HI.out.2.2.2
    rw [List.drop_eq_getElem_cons hlt, skipL] at hdr
    have hmul : (i + 1) * ns.length = i * ns.length + ns.length := by rw [Nat.add_mul, Nat.one_mul]
    generalize ns[i] = nd at hx5 hdr
    obtain ⟨y, hy⟩ : ∃ y, nd.f5 = y := ⟨_, rfl⟩
    rw [hy] at hx5 hdr
    by_cases q1 : y < 0
    ·have d18 := decide_eq_true q1
     rw [if_pos q1] at hdr
     have HE := am hdr
     clear hlt hdr q1 hmul hsq hn hbig hM
     go_wp2
     go_ret
     rw [← HE.out]
     exact ⟨rfl, ⟨0, rfl⟩⟩
    have d18 := decide_eq_false q1
    rw [if_neg q1] at hdr
    by_cases q2 : y > ns.length
    ·have d28 := decide_eq_true q2
     rw [if_pos q2] at hdr
     have HE := am hdr
     clear hlt hdr q1 q2 hmul hsq hn hbig hM
     go_wp2
     go_ret
     rw [← HE.out]
     exact ⟨rfl, ⟨0, rfl⟩⟩
    have d28 := decide_eq_false q2
    rw [if_neg q2] at hdr
    have hk : ((kid nd : Nat) : Int) = y := by unfold kid; omega
    have HE := am (show i + 1 ≤ ns.length ∧ kid nd + m ≤ 1 + (i + 1) * ns.length ∧ ((kid nd + m : Nat) : Int) = (M : Int) + (y - 1) ∧ skipL ns.length (ns.drop (i + 1)) (kid nd + m) ((i + 1 : Nat) : Int) = r from ⟨by omega, by have := HI.out.2.2.1; omega, by omega, hdr⟩)
    have hy0 : 0 ≤ y := by omega
    have hy1 : y ≤ big := by omega
    clear hlt hdr hk hmul hsq q1 q2 hy hn hbig hM
    go_wp2
    have hii : (i : Int) + 1 = ((i + 1 : Nat) : Int) := by omega
    go_roundg (gk - 1)
    case measure => have := HI.out.1; have := HE.out.1; omega
    case rel => exact ⟨i + 1, kid nd + m, by rw [hii], by rw [HE.out.2.2.1], ⟨by have := HI.out.1; have := HE.out.1; omega, HE.out.1, HE.out.2.1, HE.out.2.2.2⟩, rfl⟩
   ·have d11 : decide (ns.length ≤ i) = true := decide_eq_true (by omega)
    have HE := am (show -1 = r from by have h := HI.out.2.2.2; rw [List.drop_eq_nil_of_le (by omega)] at h; exact h)
    clear hlt hsq hn hbig hM
    go_wp2
    go_ret
    rw [← HE.out]
    exact ⟨rfl, ⟨0, rfl⟩⟩
end Go.Proofs.YthjgohbkpjhkeaaGreatDoor.PFnExactDo
set_option maxRecDepth 100000
namespace Go.Proofs.YthjgohbkpjhkeaaGreatDoor.PFnExactDo
open Go.RowKit Go.Proofs.YthjgohbkpjhkeaaGreatDoorW.PrintWords Go.Proofs.YthjgohbkpjhkeaaGreatDoorW.PrintLast Go.Proofs.YthjgohbkpjhkeaaGreatDoorW.PrintMore Go.Proofs.YthjgohbkpjhkeaaGreatDoor.MapLib
def fstI {α : Type} (p : α → Bool) : List α → Int → Int
 | [], _ => -1
 | x :: r, i => if p x then i else fstI p r (i + 1)
theorem fstI_idx {α : Type} (p : α → Bool) : ∀ (l : List α) (i : Int), fstI p l i = match l.findIdx? p with | some j => i + (j : Int) | none => -1
 | [], _ => rfl
 | x :: r, i => by
  rw [fstI, List.findIdx?_cons]
  cases p x
  ·rw [fstI_idx p r (i + 1)]
   cases r.findIdx? p with
   | none => rfl
   | some j =>
    show i + 1 + (j : Int) = i + ((j + 1 : Nat) : Int)
    omega
  ·simp
def FstAt {α : Type} (p : α → Bool) (xs : List α) (r : Int) (kq i : Nat) : Prop := i + kq = xs.length + 1 ∧ i ≤ xs.length ∧ fstI p (xs.drop i) i = r
theorem FstAt.head {α : Type} {p : α → Bool} {xs : List α} {r : Int} {kq i : Nat} (h : FstAt p xs r kq i) (hi : i < xs.length) : (if p xs[i] then (i : Int) else fstI p (xs.drop (i + 1)) ((i + 1 : Nat) : Int)) = r := by
 rw [← h.2.2, List.drop_eq_getElem_cons hi, fstI]
 rfl
theorem FstAt.done {α : Type} {p : α → Bool} {xs : List α} {r : Int} {kq i : Nat} (h : FstAt p xs r kq i) (hi : ¬ i < xs.length) : r = -1 := by
 rw [← h.2.2, List.drop_eq_nil_of_le (by omega)]
 rfl
def spec_l3Find.f (k : Nat) (xs : List Int) (v : Int) : Option Int := some (fstI (fun x => x == v) xs 0)
def spec_l4At.f (k : Nat) (ns : List S95) (id : Int) : Option Int := some (fstI (fun n => n.f0 == id) ns 0)
def spec_l5Attr.f (k : Nat) (f0 f1 : Int) (f2 : ByteArray) (xs : List S149) (f4 : ByteArray) (f5 : Int) (nm : ByteArray) : Option Int := some (fstI (fun x => x.f0.toList == nm.toList) xs 0)
theorem spec_l3Find.calls (k : Nat) (A : Option Addr) (c : Nat) (xs : List Int) (v r : Int) (w : World) (hr : (Kd.int .i64).C w A xs.length xs) (hc : xs.length ≤ c) (h : spec_l3Find.f k xs v = some r) :
  Calls Tryz.prog 119 #[.slice A xs.length c, .int .i64 v] w fun e w' => e = .returned (.int .i64 r) ∧ Drawn0 w w' := by
 have HX := am hr
 have hn := hr.2.1
 have HH := am (Option.some.inj h)
 clear hr h
 go_enter Tryz.func119, Tryz.ntmps119
 go_wp2
 go_loopg [5] (xs.length + 1) (fun kq v5 wr => ∃ i : Nat, v5 = .int .i64 i ∧ Aside0 (FstAt (fun x => x == v) xs r kq i) ∧ wr = w)
 case atStart => exact ⟨0, rfl, ⟨by omega, by omega, HH.out⟩, rfl⟩
 case round =>
  obtain ⟨i, rfl, HI, rfl⟩ := hrel
  have hd : decide ((i : Int) < (xs.length : Int)) = decide (i < xs.length) := by simp
  by_cases hlt : i < xs.length
  ·have hd2 : decide (i < xs.length) = true := decide_eq_true hlt
   rw [hd2] at hd
   have hib : (i : Int) < 9223372036854775807 := by omega
   have e3 := eq_true (show (0 : Int) ≤ (i : Int) from by omega)
   have e4 := eq_true (show (i : Int) < xs.length from by omega)
   obtain ⟨ad, hA, hx0⟩ := Kd.at_int HX.out (i : Int) (by omega) (by omega)
   subst hA
   have hdr := HI.out.head hlt
   rw [show rd xs (i : Int) = xs[i] from by simp [rd, hlt], Int.toNat_natCast] at hx0
   generalize xs[i] = x at hx0 hdr
   have HI2 := am hlt
   clear hlt hn
   cases q : (x == v)
   ·have HR := am (show fstI (fun x => x == v) (xs.drop (i + 1)) ((i + 1 : Nat) : Int) = r from by rw [q] at hdr; exact hdr)
    clear hdr
    go_wp2
    have hii : (i : Int) + 1 = ((i + 1 : Nat) : Int) := by omega
    go_roundg (gk - 1)
    case measure => have := HI.out.1; have := HI2.out; omega
    case rel => exact ⟨i + 1, by rw [hii], ⟨by have := HI.out.1; have := HI2.out; omega, HI2.out, HR.out⟩, rfl⟩
   ·have HR := am (show r = (i : Int) from by rw [q] at hdr; exact hdr.symm)
    clear hdr
    go_wp2
    go_ret
    rw [HR.out]
    exact ⟨rfl, ⟨0, rfl⟩⟩
  ·have hd2 : decide (i < xs.length) = false := decide_eq_false hlt
   rw [hd2] at hd
   have HE := am (HI.out.done hlt)
   clear hlt
   go_wp2
   go_ret
   rw [HE.out]
   exact ⟨rfl, ⟨0, rfl⟩⟩
theorem spec_l4At.calls (k : Nat) (A : Option Addr) (c : Nat) (xs : List S95) (v r : Int) (w : World) (hr : Kd.C k95 w A xs.length xs) (hc : xs.length ≤ c) (h : spec_l4At.f k xs v = some r) :
  Calls Tryz.prog 67 #[.agg #[.slice A xs.length c], .int .i64 v] w fun e w' => e = .returned (.int .i64 r) ∧ Below w.heap.size w w' := by
 have hut := Tryz.underlying31
 have HB := am ((Below.refl w.heap.size w).alloc (Nat.le_refl _) (Obj.cells #[.slice A xs.length c] 31))
 have HW := am (blk_newest w (Obj.cells #[.slice A xs.length c] 31))
 have HX := am (Kd.C_below hr HB.out)
 have hn := hr.2.1
 have HH := am (Option.some.inj h)
 clear hr h
 go_enter Tryz.func67, Tryz.ntmps67
 go_wp2
 generalize World.alloc w _ = w1 at HB HW HX ⊢
 go_loopg [5] (xs.length + 1) (fun kq v5 wr => ∃ i : Nat, v5 = .int .i64 i ∧ Aside0 (FstAt (fun n => n.f0 == v) xs r kq i) ∧ wr = w1)
 case atStart => exact ⟨0, rfl, ⟨by omega, by omega, HH.out⟩, rfl⟩
 case round =>
  obtain ⟨i, rfl, HI, rfl⟩ := hrel
  have x0 := blk_cell HW.out 0
  have hd : decide ((i : Int) < (xs.length : Int)) = decide (i < xs.length) := by simp
  by_cases hlt : i < xs.length
  ·have hd2 : decide (i < xs.length) = true := decide_eq_true hlt
   rw [hd2] at hd
   have hib : (i : Int) < 9223372036854775807 := by omega
   have e3 := eq_true (show (0 : Int) ≤ (i : Int) from by omega)
   have e4 := eq_true (show (i : Int) < xs.length from by omega)
   obtain ⟨ad, A3, c3, hA, hx0, _, _, _, _, _, _, _⟩ := at_T95 HX.out (i : Int) (by omega) (by omega)
   subst hA
   have hdr := HI.out.head hlt
   rw [show rd_T95 xs (i : Int) = xs[i] from by simp [rd_T95, hlt], Int.toNat_natCast] at hx0
   generalize xs[i].f0 = x at hx0 hdr
   have HI2 := am hlt
   clear hlt hn
   cases q : (x == v)
   ·have HR := am (show fstI (fun n => n.f0 == v) (xs.drop (i + 1)) ((i + 1 : Nat) : Int) = r from by rw [q] at hdr; exact hdr)
    clear hdr
    go_wp2
    have hii : (i : Int) + 1 = ((i + 1 : Nat) : Int) := by omega
    go_roundg (gk - 1)
    case measure => have := HI.out.1; have := HI2.out; omega
    case rel => exact ⟨i + 1, by rw [hii], ⟨by have := HI.out.1; have := HI2.out; omega, HI2.out, HR.out⟩, rfl⟩
   ·have HR := am (show r = (i : Int) from by rw [q] at hdr; exact hdr.symm)
    clear hdr
    go_wp2
    go_ret
    rw [HR.out]
    exact ⟨rfl, HB.out⟩
  ·have hd2 : decide (i < xs.length) = false := decide_eq_false hlt
   rw [hd2] at hd
   have HE := am (HI.out.done hlt)
   clear hlt
   go_wp2
   go_ret
   rw [HE.out]
   exact ⟨rfl, HB.out⟩
theorem spec_l5Attr.calls (k : Nat) (f0 f1 : Int) (f2 : ByteArray) (A : Option Addr) (c : Nat) (xs : List S149) (f4 : ByteArray) (f5 : Int) (v : ByteArray) (r : Int) (w : World) (hr : Kd.C k149 w A xs.length xs) (hc : xs.length ≤ c) (h : spec_l5Attr.f k f0 f1 f2 xs f4 f5 v = some r) :
  Calls Tryz.prog 102 #[.agg #[.int .i64 f0, .int .i64 f1, .string f2, .slice A xs.length c, .string f4, .int .i64 f5], .string v] w fun e w' => e = .returned (.int .i64 r) ∧ Below w.heap.size w w' := by
 have hut := Tryz.underlying95
 have HB := am ((Below.refl w.heap.size w).alloc (Nat.le_refl _) (Obj.cells #[.int .i64 f0, .int .i64 f1, .string f2, .slice A xs.length c, .string f4, .int .i64 f5] 95))
 have HW := am (blk_newest w (Obj.cells #[.int .i64 f0, .int .i64 f1, .string f2, .slice A xs.length c, .string f4, .int .i64 f5] 95))
 have HX := am (Kd.C_below hr HB.out)
 have hn := hr.2.1
 have HH := am (Option.some.inj h)
 clear hr h
 go_enter Tryz.func102, Tryz.ntmps102
 go_wp2
 generalize World.alloc w _ = w1 at HB HW HX ⊢
 go_loopg [5] (xs.length + 1) (fun kq v5 wr => ∃ i : Nat, v5 = .int .i64 i ∧ Aside0 (FstAt (fun x => x.f0.toList == v.toList) xs r kq i) ∧ wr = w1)
 case atStart => exact ⟨0, rfl, ⟨by omega, by omega, HH.out⟩, rfl⟩
 case round =>
  obtain ⟨i, rfl, HI, rfl⟩ := hrel
  have x3 := blk_cell HW.out 3
  have hd : decide ((i : Int) < (xs.length : Int)) = decide (i < xs.length) := by simp
  by_cases hlt : i < xs.length
  ·have hd2 : decide (i < xs.length) = true := decide_eq_true hlt
   rw [hd2] at hd
   have hib : (i : Int) < 9223372036854775807 := by omega
   have e3 := eq_true (show (0 : Int) ≤ (i : Int) from by omega)
   have e4 := eq_true (show (i : Int) < xs.length from by omega)
   obtain ⟨ad, hA, hx0, _⟩ := at_T149 HX.out (i : Int) (by omega) (by omega)
   subst hA
   have hdr := HI.out.head hlt
   rw [show rd_T149 xs (i : Int) = xs[i] from by simp [rd_T149, hlt], Int.toNat_natCast] at hx0
   generalize xs[i].f0 = x at hx0 hdr
   have HI2 := am hlt
   clear hlt hn
   cases q : (x.toList == v.toList)
   ·have HR := am (show fstI (fun x => x.f0.toList == v.toList) (xs.drop (i + 1)) ((i + 1 : Nat) : Int) = r from by rw [q] at hdr; exact hdr)
    clear hdr
    go_wp2
    have hii : (i : Int) + 1 = ((i + 1 : Nat) : Int) := by omega
    go_roundg (gk - 1)
    case measure => have := HI.out.1; have := HI2.out; omega
    case rel => exact ⟨i + 1, by rw [hii], ⟨by have := HI.out.1; have := HI2.out; omega, HI2.out, HR.out⟩, rfl⟩
   ·have HR := am (show r = (i : Int) from by rw [q] at hdr; exact hdr.symm)
    clear hdr
    go_wp2
    go_ret
    rw [HR.out]
    exact ⟨rfl, HB.out⟩
  ·have hd2 : decide (i < xs.length) = false := decide_eq_false hlt
   rw [hd2] at hd
   have HE := am (HI.out.done hlt)
   clear hlt
   go_wp2
   go_ret
   rw [HE.out]
   exact ⟨rfl, HB.out⟩
def spec_l5Holds.f (f0 f1 : Int) (f2 : ByteArray) (xs : List S149) (f4 : ByteArray) (f5 : Int) : Option Bool := some (f1 == 1 || f1 == 2)
theorem spec_l5Holds.calls (f0 f1 : Int) (f2 : ByteArray) (A : Option Addr) (c : Nat) (xs : List S149) (f4 : ByteArray) (f5 : Int) (r : Bool) (w : World) (hr : Kd.C k149 w A xs.length xs) (hc : xs.length ≤ c) (h : spec_l5Holds.f f0 f1 f2 xs f4 f5 = some r) :
  Calls Tryz.prog 69 #[.agg #[.int .i64 f0, .int .i64 f1, .string f2, .slice A xs.length c, .string f4, .int .i64 f5]] w fun e w' => e = .returned (.bool r) ∧ Below w.heap.size w w' := by
 have hut := Tryz.underlying95
 have HB := am ((Below.refl w.heap.size w).alloc (Nat.le_refl _) (Obj.cells #[.int .i64 f0, .int .i64 f1, .string f2, .slice A xs.length c, .string f4, .int .i64 f5] 95))
 have HH := am (Option.some.inj h)
 clear h hr hc
 rw [← HH.out]
 cases q1 : (f1 == 1) <;> cases q2 : (f1 == 2)
 all_goals
  go_enter Tryz.func69, Tryz.ntmps69
  go_wp2
  go_ret
  exact ⟨rfl, HB.out⟩
end Go.Proofs.YthjgohbkpjhkeaaGreatDoor.PFnExactDo
namespace Go.Proofs.YthjgohbkpjhkeaaGreatDoor.FireSpec
open Go.RowKit Go.Proofs.YthjgohbkpjhkeaaGreatDoorW.PrintWords Go.Proofs.YthjgohbkpjhkeaaGreatDoor.PFnExactDo Go.Proofs.YthjgohbkpjhkeaaGreatDoor.Tr
theorem w64 {n : Int} (h0 : -9223372036854775808 ≤ n) (h1 : n < 9223372036854775808) : wrap64 n = n := by
 unfold wrap64
 omega
theorem bytes_eq {a b : ByteArray} : a.toList = b.toList ↔ a = b := by
 constructor
 ·intro h
  rw [ByteArray.toList_eq, ByteArray.toList_eq] at h
  obtain ⟨⟨x⟩⟩ := a
  obtain ⟨⟨y⟩⟩ := b
  simpa using h
 ·intro h; rw [h]
theorem bytes_nil {a : ByteArray} : a.toList = [] ↔ a = ⟨#[]⟩ := by
 rw [ByteArray.toList_eq]
 constructor
 ·intro h
  obtain ⟨⟨x⟩⟩ := a
  simpa using h
 ·intro h; rw [h]
abbrev Node := S95
abbrev Attr := S149
def attrsOk (xs : List Attr) : Bool := decide ((∀ a ∈ xs, a.f0 ≠ ⟨#[]⟩) ∧ (xs.map (·.f0)).Nodup)
def nodeOk (n : Node) (first : Bool) : Bool :=
 if n.f0 < 0 ∨ n.f0 > 1000000 ∨ ((n.f1 == 1) != first) = true then false
 else if n.f1 = 1 then decide (n.f2 = ⟨#[]⟩) && decide (n.f4 = ⟨#[]⟩) && decide (n.f3.length = 0)
 else if n.f1 = 2 then decide (n.f2 ≠ ⟨#[]⟩) && decide (n.f4 = ⟨#[]⟩) && attrsOk n.f3
 else if n.f1 = 3 then decide (n.f2 = ⟨#[]⟩) && decide (n.f4 ≠ ⟨#[]⟩) && decide (n.f3.length = 0) && decide (n.f5 = 0)
 else if n.f1 = 4 then decide (n.f2 = ⟨#[]⟩) && decide (n.f3.length = 0) && decide (n.f5 = 0)
 else if n.f1 = 5 then decide (n.f4 = ⟨#[]⟩) && decide (n.f3.length = 0) && decide (n.f5 = 0)
 else false
theorem attrsOk_all {xs : List Attr} (h1 : ∀ a ∈ xs, a.f0 ≠ ⟨#[]⟩) (h2 : (xs.map (·.f0)).Nodup) : attrsOk xs = true := decide_eq_true ⟨h1, h2⟩
theorem attrsOk_false {xs : List Attr} {i : Nat} (hi : i < xs.length) (h : xs[i].f0 = ⟨#[]⟩ ∨ ∃ a ∈ xs.take i, a.f0 = xs[i].f0) : attrsOk xs = false := by
 refine decide_eq_false fun ⟨h3, h4⟩ => ?_
 rcases h with h | ⟨a, ha, e⟩
 ·exact h3 _ (List.getElem_mem hi) h
 ·rw [← List.take_append_drop i xs, List.drop_eq_getElem_cons hi, List.map_append, List.nodup_append] at h4
  exact h4.2.2 _ (List.mem_map_of_mem ha) _ (List.mem_map_of_mem List.mem_cons_self) e
theorem dec_bytes (a : ByteArray) : (a.toList == []) = decide (a = ⟨#[]⟩) := by
 rw [Bool.eq_iff_iff]; simp [bytes_nil]
def flatN (n1 : Int) (b2 b4 l0 k0 : Bool) : Bool := if n1 = 1 then b2 && b4 && l0 else if n1 = 3 then b2 && !b4 && l0 && k0 else if n1 = 4 then b2 && l0 && k0 else if n1 = 5 then b4 && l0 && k0 else false
theorem nodeOk_bad {n : Node} {first : Bool} (h : (decide (n.f0 < 0) || decide (n.f0 > 1000000) || ((n.f1 == 1) != first)) = true) : nodeOk n first = false := by
 unfold nodeOk
 rw [if_pos (by simpa [or_assoc] using h)]
theorem nodeOk_kinds {n : Node} {first : Bool} (h : (decide (n.f0 < 0) || decide (n.f0 > 1000000) || ((n.f1 == 1) != first)) = false) :
  decide (n.f0 < 0) = false ∧ decide (n.f0 > 1000000) = false ∧ first = (n.f1 == 1) ∧ nodeOk n first = if n.f1 = 2 then attrsOk n.f3 && (!(n.f2.toList == []) && (n.f4.toList == [])) else flatN n.f1 (n.f2.toList == []) (n.f4.toList == []) (n.f3.length == 0) (n.f5 == 0) := by
 simp only [Bool.or_eq_false_iff] at h
 obtain ⟨⟨h0, h1⟩, h2⟩ := h
 have h3 : ¬ (n.f0 < 0 ∨ n.f0 > 1000000 ∨ ((n.f1 == 1) != first) = true) := by simp [of_decide_eq_false h0, of_decide_eq_false h1, h2]
 obtain rfl : (n.f1 == 1) = first := by simpa using h2
 refine ⟨h0, h1, rfl, ?_⟩
 unfold nodeOk flatN
 rw [if_neg h3, dec_bytes, dec_bytes]
 by_cases k2 : n.f1 = 2
 ·rw [if_neg (by omega), if_pos k2, if_pos k2, Bool.and_comm]
  simp
 ·simp only [if_neg k2, ne_eq, decide_not]
  rfl
end Go.Proofs.YthjgohbkpjhkeaaGreatDoor.FireSpec
set_option maxHeartbeats 8000000
set_option maxRecDepth 100000
namespace Go.Proofs.YthjgohbkpjhkeaaGreatDoor.Impl
open Go.RowKit Go.Proofs.YthjgohbkpjhkeaaGreatDoorW.PrintWords Go.Proofs.YthjgohbkpjhkeaaGreatDoorW.PrintLast Go.Proofs.YthjgohbkpjhkeaaGreatDoorW.PrintMore Go.Proofs.YthjgohbkpjhkeaaGreatDoor.PFnExactDo Go.Proofs.YthjgohbkpjhkeaaGreatDoor.MapLib Go.Proofs.YthjgohbkpjhkeaaGreatDoor.FireSpec
theorem keyS : KeyEnc Tryz.prog 9 (fun s : ByteArray => Value.string s) := key_string Tryz.underlying9
theorem zeroB (w : World) : (zeroValue 4).run Tryz.prog w = .ok (.bool false) w := by kernel_rfl
def seenOf (l : List Attr) : List (ByteArray × Value) := l.map (fun a => (a.f0, .bool true))
theorem look_seen (l : List Attr) (k : ByteArray) : mlook (seenOf l) k = if (∃ a ∈ l, a.f0 = k) then some (.bool true) else none := by
 induction l with
 | nil => simp [seenOf, mlook]
 | cons a l ih =>
  unfold mlook seenOf at ih ⊢
  by_cases e : k = a.f0
  ·simp [e]
  ·simp only [List.map_cons, List.find?_cons, e, decide_false]
   rw [ih]
   congr 1
   simp only [List.mem_cons, exists_eq_or_imp, eq_iff_iff, iff_or_self]
   intro h
   exact absurd h.symm e
theorem attrsRight_calls (A : Option Addr) (c : Nat) (l : List Attr) (w : World) (hr : Kd.C k149 w A l.length l) (hc : l.length ≤ c) :
  Calls Tryz.prog 110 #[.slice A l.length c] w fun e w' => e = .returned (.bool (attrsOk l)) ∧ Below w.heap.size w w' := by
 have hln : l.length ≤ 9223372036854775807 := hr.2.1
 have HL := am hln
 have HR := am hr
 have HC := am hc
 clear hr hc hln
 have hmm := fun t w => run_makeMap (P := Tryz.prog) t w
 go_enter Tryz.func110, Tryz.ntmps110
 go_wp2
 go_loopg [9] (l.length + 1) (fun kq v9 w' => ∃ x : Int, v9 = .int .i64 x ∧ Aside0 (∃ i : Nat, x = i ∧ i + kq = l.length + 1 ∧ i ≤ l.length ∧ (∀ a ∈ l.take i, a.f0 ≠ ⟨#[]⟩) ∧ ((l.take i).map (·.f0)).Nodup) ∧ Aside0 (MapIs (fun s : ByteArray => Value.string s) w' w.heap.size (seenOf (l.take x.toNat))) ∧ Aside0 (Below w.heap.size w w'))
 case atStart => exact ⟨0, rfl, ⟨0, rfl, by omega, by omega, by simp, by simp⟩, ⟨MapIs.made w⟩, ⟨(Below.refl _ w).alloc (Nat.le_refl _) _⟩⟩
 case round =>
  obtain ⟨x, rfl, HX, HM, HB⟩ := hrel
  obtain ⟨i, hx, hk, hi, h1, h2⟩ := HX.out
  have p : 0 ≤ x := by omega
  by_cases hlt : x < (l.length : Int)
  ·obtain ⟨ad, e, hx0, hx1⟩ := at_T149 HR.out x p hlt
   cases e
   replace hx0 := (HB.out.cell (World.block_lt_of_cell? w _ hx0)).trans hx0
   replace hx1 := (HB.out.cell (World.block_lt_of_cell? w _ hx1)).trans hx1
   clear hx hk hi h1 h2 i
   have hlt1 : decide (x < (l.length : Int)) = true := decide_eq_true hlt
   have hmaxx : x < 9223372036854775807 := by have := HL.out; omega
   replace p := eq_true p
   have q := eq_true hlt
   by_cases c1 : (rd_T149 l x).f0.toList = []
   ·have c1b : (rd_T149 l x).f0.toList.isEmpty = true := by rw [c1]; rfl
    clear c1
    go_wp2
    go_ret
    refine ⟨?_, HB.out.alloc HB.out.size _⟩
    obtain ⟨i, hx, hk, hi, h1, h2⟩ := HX.out
    subst hx
    have hrd : rd_T149 l (i : Int) = l[i]'(by omega) := by simp [rd_T149, show i < l.length by omega]
    rw [hrd, List.isEmpty_iff] at c1b
    have hf : attrsOk l = false := attrsOk_false (i := i) (by omega) (.inl (bytes_nil.1 c1b))
    rw [hf]
    rfl
   ·have c1b : (rd_T149 l x).f0.toList.isEmpty = false := by rw [← Bool.not_eq_true, List.isEmpty_iff]; exact c1
    clear c1
    by_cases c2 : ∃ a ∈ l.take x.toNat, a.f0 = (rd_T149 l x).f0
    ·have HS := am (show mlook (seenOf (l.take x.toNat)) (rd_T149 l x).f0 = some (.bool true) by rw [look_seen, if_pos c2])
     have HC2 := am c2
     clear c2
     go_wp2_with (first | (at_lookup; refine gate_guard (by simp [Region.wanted, yielded, go_sem]) ?_; refine wp_lookup _ rfl _ _ _ _ _ rfl keyS Tryz.underlying207 (.bool false) (zeroB _) w.heap.size _ rfl (HM.out.below ((Below.refl _ _).alloc (Nat.le_refl _) _)) (rd_T149 l x).f0 rfl ?_; rw [HS.out]))
     go_ret
     refine ⟨?_, HB.out.alloc HB.out.size _⟩
     obtain ⟨i, hx, hk, hi, h1, h2⟩ := HX.out
     have HC2 := HC2.out
     subst hx
     have hrd : rd_T149 l (i : Int) = l[i]'(by omega) := by simp [rd_T149, show i < l.length by omega]
     rw [hrd, Int.toNat_natCast] at HC2
     have hf : attrsOk l = false := attrsOk_false (i := i) (by omega) (.inr HC2)
     rw [hf]
     rfl
    ·have HS := am (show mlook (seenOf (l.take x.toNat)) (rd_T149 l x).f0 = none by rw [look_seen, if_neg c2])
     have HC2 := am c2
     clear c2
     go_wp2_with (first | (at_lookup; refine gate_guard (by simp [Region.wanted, yielded, go_sem]) ?_; refine wp_lookup _ rfl _ _ _ _ _ rfl keyS Tryz.underlying207 (.bool false) (zeroB _) w.heap.size _ rfl (HM.out.below ((Below.refl _ _).alloc (Nat.le_refl _) _)) (rd_T149 l x).f0 rfl ?_; rw [HS.out]) | (at_mapUpdate; refine wp_store_new _ rfl _ _ _ _ _ _ rfl keyS Tryz.underlying207 w.heap.size _ rfl (HM.out.below ((Below.refl _ _).alloc (Nat.le_refl _) _)) (rd_T149 l x).f0 rfl (.bool true) rfl HS.out ?_; intro w9 hm9 hg9))
     have HM9 := am hm9
     have HB9 := am ((HB.out.alloc HB.out.size (Obj.cells #[Value.string (rd_T149 l x).f0, Value.string (rd_T149 l x).f1] 149)).grown hg9 (by have := HB.out.size; simp; omega) (fun k e => by injection e with e; omega))
     clear hm9 hg9
     go_wp2
     go_roundg (gk - 1)
     case measure => obtain ⟨i, hx, hk, hi, h1, h2⟩ := HX.out; omega
     case rel =>
      obtain ⟨i, hx, hk, hi, h1, h2⟩ := HX.out
      have HC2 := HC2.out
      have HM9 := HM9.out
      subst hx
      have hi' : i < l.length := by omega
      have hrd : rd_T149 l (i : Int) = l[i] := by simp [rd_T149, hi']
      rw [hrd] at c1b HC2 HM9
      rw [Int.toNat_natCast] at HC2 HM9
      have hne : l[i].f0 ≠ ⟨#[]⟩ := fun h => by rw [bytes_nil.2 h] at c1b; cases c1b
      refine ⟨(i : Int) + 1, by rw [w64 (by omega) (by omega)], ⟨i + 1, by omega, by omega, by omega, ?_, ?_⟩, ⟨?_⟩, HB9⟩
      ·intro a ha
       rw [List.take_succ_eq_append_getElem hi', List.mem_append] at ha
       rcases ha with ha | ha
       ·exact h1 a ha
       ·rw [List.mem_singleton.1 ha]; exact hne
      ·rw [List.take_succ_eq_append_getElem hi', List.map_append, List.nodup_append]
       refine ⟨h2, by simp, ?_⟩
       intro y hy z hz
       obtain ⟨a, ha, rfl⟩ := List.mem_map.1 hy
       rw [show z = l[i].f0 from by simpa using hz]
       exact fun he => HC2 ⟨a, ha, he⟩
      ·rw [show ((i : Int) + 1).toNat = i + 1 from by omega, List.take_succ_eq_append_getElem hi']
       rw [show seenOf (l.take i ++ [l[i]]) = seenOf (l.take i) ++ [(l[i].f0, .bool true)] from by unfold seenOf; rw [List.map_append]; rfl]
       exact HM9
  ·obtain ⟨i, hx, hk, hi, h1, h2⟩ := HX.out
   have hf := am (show attrsOk l = true from attrsOk_all (by rw [List.take_of_length_le (by omega)] at h1; exact h1) (by rw [List.take_of_length_le (by omega)] at h2; exact h2))
   have hlt1 : decide (x < (l.length : Int)) = false := decide_eq_false hlt
   clear hx hk hi h1 h2 i HX
   go_wp2
   go_ret
   rw [hf.out]
   exact ⟨rfl, HB.out⟩
def nodeRightB (n : S95) (isFirst : Bool) : Bool := nodeOk n isFirst && decide (0 ≤ n.f5)
theorem emp (l : List UInt8) : l.isEmpty = (l == []) := by cases l <;> rfl
def BoolAt (w : World) (b : Bool) (e : Ending) (w' : World) : Prop := e = .returned (.bool b) ∧ Below w.heap.size w w'
theorem nodeRight_low (n0 n1 : Int) (s t : ByteArray) (n5 : Int) (A : Option Addr) (n c : Nat) (first : Bool) (w : World) (h : (decide (n0 < 0) || decide (n0 > 1000000) || ((n1 == 1) != first) || decide (n5 < 0)) = true) :
  Calls Tryz.prog 83 #[.agg #[.int .i64 n0, .int .i64 n1, .string s, .slice A n c, .string t, .int .i64 n5], .bool first] w (BoolAt w false) := by
 have hut := Tryz.underlying95
 have HB := am ((Below.refl w.heap.size w).alloc (Nat.le_refl _) (Obj.cells #[.int .i64 n0, .int .i64 n1, .string s, .slice A n c, .string t, .int .i64 n5] 95))
 cases u1 : decide (n0 < 0)
 cases u2 : decide (n0 > 1000000)
 cases u5 : decide (n5 < 0)
 cases e1 : (n1 == 1) <;> cases first
 all_goals first | (simp [*] at h; done) | skip
 all_goals
  try have u4 : decide (1000000 < n0) = _ := u2
  clear h
  go_enter Tryz.func83, Tryz.ntmps83
  go_wp2
  go_ret
  exact ⟨rfl, HB.out⟩
theorem nodeRight_flat (n0 n1 : Int) (s t : ByteArray) (n5 : Int) (A : Option Addr) (n c : Nat) (w : World) (h0 : decide (n0 < 0) = false) (h1 : decide (n0 > 1000000) = false) (h5 : decide (n5 < 0) = false) (h2 : n1 ≠ 2) (b2 b4 l0 k0 : Bool) (c2 : (s.toList == []) = b2) (c4 : (t.toList == []) = b4) (cl : (n == 0) = l0) (ck : (n5 == 0) = k0) :
  Calls Tryz.prog 83 #[.agg #[.int .i64 n0, .int .i64 n1, .string s, .slice A n c, .string t, .int .i64 n5], .bool (n1 == 1)] w (BoolAt w (flatN n1 b2 b4 l0 k0)) := by
 have hut := Tryz.underlying95
 have HB := am ((Below.refl w.heap.size w).alloc (Nat.le_refl _) (Obj.cells #[.int .i64 n0, .int .i64 n1, .string s, .slice A n c, .string t, .int .i64 n5] 95))
 have p2 := (emp s.toList).trans c2
 have p4 := (emp t.toList).trans c4
 have u4 : decide (1000000 < n0) = false := h1
 have cd : decide (n = 0) = l0 := cl
 have ci : ((n : Int) == 0) = l0 := by rw [← cl, Bool.eq_iff_iff, beq_iff_eq, beq_iff_eq]; omega
 have e2 : (n1 == 2) = false := by simpa using h2
 by_cases k1 : n1 = 1
 ·subst k1
  clear h2
  cases b2 <;> cases b4 <;> cases l0
  all_goals
   go_enter Tryz.func83, Tryz.ntmps83
   go_wp2
   go_ret
   exact ⟨rfl, HB.out⟩
 have e1 : (n1 == 1) = false := by simpa using k1
 by_cases k3 : n1 = 3
 ·subst k3
  clear h2
  cases b2 <;> cases b4 <;> cases l0 <;> cases k0
  all_goals
   go_enter Tryz.func83, Tryz.ntmps83
   go_wp2
   go_ret
   exact ⟨rfl, HB.out⟩
 have e3 : (n1 == 3) = false := by simpa using k3
 by_cases k4 : n1 = 4
 ·subst k4
  clear h2
  cases b2 <;> cases l0 <;> cases k0
  all_goals
   go_enter Tryz.func83, Tryz.ntmps83
   go_wp2
   go_ret
   exact ⟨rfl, HB.out⟩
 have e4 : (n1 == 4) = false := by simpa using k4
 by_cases k5 : n1 = 5
 ·subst k5
  clear h2
  cases b4 <;> cases l0 <;> cases k0
  all_goals
   go_enter Tryz.func83, Tryz.ntmps83
   go_wp2
   go_ret
   exact ⟨rfl, HB.out⟩
 have e5 : (n1 == 5) = false := by simpa using k5
 have HF := am (show flatN n1 b2 b4 l0 k0 = false from by unfold flatN; rw [if_neg k1, if_neg k3, if_neg k4, if_neg k5])
 rw [HF.out, e1]
 clear h2 k1 k3 k4 k5
 go_enter Tryz.func83, Tryz.ntmps83
 go_wp2
 go_ret
 exact ⟨rfl, HB.out⟩
theorem nodeRight_elem (n0 : Int) (s t : ByteArray) (n5 : Int) (A : Option Addr) (c : Nat) (xs : List S149) (w : World) (h0 : decide (n0 < 0) = false) (h1 : decide (n0 > 1000000) = false) (h5 : decide (n5 < 0) = false) (hr : Kd.C k149 w A xs.length xs) (hc : xs.length ≤ c) (b2 b4 : Bool) (c2 : (s.toList == []) = b2) (c4 : (t.toList == []) = b4) :
  Calls Tryz.prog 83 #[.agg #[.int .i64 n0, .int .i64 2, .string s, .slice A xs.length c, .string t, .int .i64 n5], .bool false] w (BoolAt w (attrsOk xs && (!b2 && b4))) := by
 have hut := Tryz.underlying95
 have HB := am ((Below.refl w.heap.size w).alloc (Nat.le_refl _) (Obj.cells #[.int .i64 n0, .int .i64 2, .string s, .slice A xs.length c, .string t, .int .i64 n5] 95))
 have HR := am (attrsRight_calls A c xs _ (Kd.C_below hr HB.out) hc)
 have p2 := (emp s.toList).trans c2
 have p4 := (emp t.toList).trans c4
 have u4 : decide (1000000 < n0) = false := h1
 clear hr hc
 cases b2 <;> cases b4
 all_goals
  go_enter Tryz.func83, Tryz.ntmps83
  go_wp2_with (first | (go_at_call 110; refine HR.out.mono ?_; rintro e w9 ⟨rfl, hb9⟩; have HB9 := am (HB.out.trans (hb9.mono HB.out.size)); clear hb9) | fail)
  go_ret
  exact ⟨by simp, by first | exact HB9.out | exact HB.out⟩
theorem nodeRight_calls (n : S95) (A : Option Addr) (c : Nat) (isFirst : Bool) (w : World) (hr : Kd.C k149 w A n.f3.length n.f3) (hc : n.f3.length ≤ c) :
  Calls Tryz.prog 83 #[.agg #[.int .i64 n.f0, .int .i64 n.f1, .string n.f2, .slice A n.f3.length c, .string n.f4, .int .i64 n.f5], .bool isFirst] w (BoolAt w (nodeRightB n isFirst)) := by
 unfold nodeRightB
 cases h : (decide (n.f0 < 0) || decide (n.f0 > 1000000) || ((n.f1 == 1) != isFirst))
 ·cases h5 : decide (n.f5 < 0)
  ·obtain ⟨h0, h1, rfl, e⟩ := nodeOk_kinds h
   rw [e, decide_eq_true (by have := of_decide_eq_false h5; omega), Bool.and_true]
   split
   ·rename_i k2
    rw [k2]
    exact nodeRight_elem n.f0 n.f2 n.f4 n.f5 A c n.f3 w h0 h1 h5 hr hc _ _ rfl rfl
   ·exact nodeRight_flat n.f0 n.f1 n.f2 n.f4 n.f5 A n.f3.length c w h0 h1 h5 ‹_› _ _ _ _ rfl rfl rfl rfl
  ·rw [decide_eq_false (by have := of_decide_eq_true h5; omega), Bool.and_false]
   exact nodeRight_low _ _ _ _ _ _ _ _ _ _ (by rw [h5, Bool.or_true])
 ·rw [nodeOk_bad h, Bool.false_and]
  exact nodeRight_low _ _ _ _ _ _ _ _ _ _ (by rw [h, Bool.true_or])
end Go.Proofs.YthjgohbkpjhkeaaGreatDoor.Impl
namespace Go.Proofs.YthjgohbkpjhkeaaGreatDoor.FireSpec
open Go.RowKit Go.Proofs.YthjgohbkpjhkeaaGreatDoorW.PrintWords Go.Proofs.YthjgohbkpjhkeaaGreatDoor.PFnExactDo Go.Proofs.YthjgohbkpjhkeaaGreatDoor.Tr
def Ev {α : Type} (g : Nat → Option α) (r : α) : Prop := ∃ K, ∀ k, K ≤ k → g k = some r
section
variable {α β : Type} {f g : Nat → Option α} {r : α}
theorem Ev.same (h : Ev g r) (hs : ∀ k, f k = g k) : Ev f r := by
 obtain ⟨K, hK⟩ := h
 exact ⟨K, fun k hk => by rw [hs]; exact hK k hk⟩
theorem Ev.done (hs : ∀ k, f (k + 1) = some r) : Ev f r := ⟨1, fun k hk => by obtain ⟨m, rfl⟩ : ∃ m, k = m + 1 := ⟨k - 1, by omega⟩; exact hs m⟩
theorem Ev.const (r : α) : Ev (fun _ => some r) r := ⟨0, fun _ _ => rfl⟩
theorem Ev.bind {x : Nat → Option β} {y : β} {c : Nat → β → Option α} (hx : Ev x y) (hc : Ev (fun k => c k y) r) : Ev (fun k => (x k).bind (c k)) r := by
 obtain ⟨K, hK⟩ := hx
 obtain ⟨L, hL⟩ := hc
 exact ⟨max K L, fun k hk => by
  simp only [hK k (by omega), Option.bind_some]
  exact hL k (by omega)⟩
theorem Ev.some (h : Ev g r) : ∃ k, g k = some r := by obtain ⟨K, hK⟩ := h; exact ⟨K, hK K (Nat.le_refl _)⟩
end
def kids (ns : List Node) : List Nat := ns.map kid
theorem skip_f (ns : List Node) (hn : ns.length < 2 ^ 30) (i : Nat) (hi : i ≤ ns.length) : Ev (fun k => spec_l3Skip.f k ns i) (skipL ns.length (ns.drop i) 1 i) :=
 Ev.same (Ev.const _) fun k => by rw [spec_l3Skip.f, if_pos ⟨by omega, by omega, by omega⟩, Int.toNat_natCast]
def kidsOk (ns : List Node) : Prop := ∀ n ∈ ns, 0 ≤ n.f5
theorem skip_whole (L : Nat) : ∀ (ns : List Node) (m p : Nat), ns.length ≤ L → (skipL L ns m p = p + ns.length ↔ kidsOk ns ∧ fin (kids ns) m p = some (p + ns.length))
 | ns, 0, p, h => by
  rw [skipL_zero, fin_zero]
  constructor
  ·intro e
   have : ns = [] := List.eq_nil_of_length_eq_zero (by omega)
   subst this
   exact ⟨fun _ h => by simp at h, rfl⟩
  ·rintro ⟨_, e⟩
   injection e with e
   omega
 | [], m + 1, p, h => by simp [skipL, kids, fin]
 | n :: ns, m + 1, p, h => by
  simp only [skipL, kids, List.map_cons, fin, List.length_cons] at h ⊢
  by_cases c1 : n.f5 < 0
  ·rw [if_pos c1]
   constructor
   ·intro e; omega
   ·rintro ⟨hk, _⟩
    have := hk n List.mem_cons_self
    omega
  by_cases c2 : n.f5 > (L : Int)
  ·rw [if_neg c1, if_pos c2]
   constructor
   ·intro e; omega
   ·rintro ⟨_, hf⟩
    have := fin_bounds _ _ _ _ hf
    simp only [List.length_map] at this
    unfold kid at this
    omega
  rw [if_neg c1, if_neg c2]
  have ih := skip_whole L ns (kid n + m) (p + 1) (by omega)
  rw [show (((p + 1 : Nat)) : Int) = (p : Int) + 1 from by omega] at ih
  rw [show (p : Int) + ((ns.length + 1 : Nat) : Int) = (p : Int) + 1 + ns.length from by omega, ih, show p + (ns.length + 1) = p + 1 + ns.length from by omega]
  constructor
  ·rintro ⟨hk, hf⟩
   refine ⟨fun x hx => ?_, hf⟩
   rcases List.mem_cons.1 hx with e | hx
   ·rw [e]; omega
   ·exact hk x hx
  ·rintro ⟨hk, hf⟩
   exact ⟨fun x hx => hk x (List.mem_cons_of_mem _ hx), hf⟩
def ints (left : List Nat) : List Int := (left.map (fun k : Nat => (k : Int))).reverse
theorem ints_length (l : List Nat) : (ints l).length = l.length := by simp [ints]
theorem ints_cons (k : Nat) (l : List Nat) : ints (k :: l) = ints l ++ [(k : Int)] := by simp [ints]
theorem set_last {α : Type} (l : List α) (a b : α) : (l ++ [a]).set l.length b = l ++ [b] := by
 rw [List.set_append_right _ _ (Nat.le_refl _)]; simp
theorem rd_last (l : List Int) (a : Int) : rd (l ++ [a]) (l.length : Int) = a := by simp [rd]
def nds (ns : List Node) : List Nd := ns.map (fun n => ⟨n.f0, kid n, nodeOk n⟩)
def treeOk (ns : List Node) : Bool :=
 decide (1 ≤ ns.length ∧ ns.length ≤ 4000 ∧ (∀ n ∈ ns, 0 ≤ n.f5) ∧ fin (kids ns) 1 0 = some ns.length) && sloop true [] [] (nds ns)
end Go.Proofs.YthjgohbkpjhkeaaGreatDoor.FireSpec
