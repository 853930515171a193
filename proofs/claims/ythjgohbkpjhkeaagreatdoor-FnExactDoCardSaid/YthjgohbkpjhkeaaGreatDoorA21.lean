/- Part 21 of the proof: DoSpecF, DoAim, DoEndI, DoActOf. -/
import Derived.Test.YthjgohbkpjhkeaaGreatDoorA2
import Derived.Test.YthjgohbkpjhkeaaGreatDoorA13
import Derived.Test.YthjgohbkpjhkeaaGreatDoorA12
import Derived.Test.YthjgohbkpjhkeaaGreatDoorA4
import Derived.Test.YthjgohbkpjhkeaaGreatDoorA20
import Derived.Test.YthjgohbkpjhkeaaGreatDoorA1
import Derived.Test.YthjgohbkpjhkeaaGreatDoorA10
import Derived.Test.YthjgohbkpjhkeaaGreatDoorA7
set_option linter.unusedVariables false
set_option linter.unusedSimpArgs false
namespace Go.Proofs.YthjgohbkpjhkeaaGreatDoor.FireSpec
open Go.RowKit Go.Proofs.YthjgohbkpjhkeaaGreatDoorW.PrintWords Go.Proofs.YthjgohbkpjhkeaaGreatDoor.PFnExactDo Go.Proofs.YthjgohbkpjhkeaaGreatDoor.Tr Go.Proofs.YthjgohbkpjhkeaaGreatDoor.Impl
theorem skip_fin (L : Nat) : ∀ (ns : List Node) (m p e : Nat), ns.length ≤ L → (∀ n ∈ ns, 0 ≤ n.f5) → fin (kids ns) m p = some e → skipL L ns m p = e
 | ns, 0, p, e, _, _, h => by
  rw [fin_zero] at h
  injection h with h
  rw [skipL_zero, h]
 | [], m + 1, p, e, _, _, h => by simp [kids, fin] at h
 | n :: ns, m + 1, p, e, hL, hk, h => by
  simp only [kids, List.map_cons, fin] at h
  simp only [List.length_cons] at hL
  have h0 := hk n List.mem_cons_self
  have hb := fin_bounds _ _ _ _ h
  simp only [List.length_map] at hb
  simp only [skipL]
  rw [if_neg (by omega), if_neg (by unfold kid at hb; omega)]
  have := skip_fin L ns (kid n + m) (p + 1) e (by omega) (fun x hx => hk x (List.mem_cons_of_mem _ hx)) h
  rw [← this]
  congr 1
theorem skip_E {ns : List Node} (hn : ns.length < 2 ^ 30) (hk : ∀ n ∈ ns, 0 ≤ n.f5) {i e : Nat} (h : E (kids ns) i 1 = some e) : Ev (fun k => spec_l3Skip.f k ns i) (e : Int) := by
 have hi := (E_one h).1
 simp only [kids, List.length_map] at hi
 have h2 := skip_f ns hn i (by omega)
 rwa [skip_fin ns.length (ns.drop i) 1 i e (by simp) (fun n h => hk n (List.mem_of_mem_drop h)) (by simpa [E, kids, List.map_drop] using h)] at h2
def places (ks : List Nat) : Nat → Nat → List Nat
 | 0, _ => []
 | m + 1, q => q :: places ks m ((E ks q 1).getD 0)
theorem places_length (ks : List Nat) : ∀ m q, (places ks m q).length = m
 | 0, q => rfl
 | m + 1, q => by simp [places, places_length ks m]
theorem places_at {ks : List Nat} : ∀ (m q : Nat) {e i j : Nat}, E ks q m = some e → i < m → E ks q i = some j → (places ks m q)[i]? = some j
 | 0, q, e, i, j, _, hi, _ => by omega
 | m + 1, q, e, 0, j, h, hi, hj => by
  rw [E_zero] at hj
  simpa [places] using hj
 | m + 1, q, e, i + 1, j, h, hi, hj => by
  rw [Nat.add_comm, E_add] at h hj
  cases h1 : E ks q 1 with
  | none => rw [h1] at h; cases h
  | some s =>
   rw [h1] at h hj
   simp only [Option.bind_some] at h hj
   simp only [places, h1, Option.getD_some, List.getElem?_cons_succ]
   exact places_at m s h (by omega) hj
def intsUp (l : List Nat) : List Int := l.map (fun k : Nat => (k : Int))
theorem kids_E {ns : List Node} (hb : ns.length < 2 ^ 30) (hk : ∀ n ∈ ns, 0 ≤ n.f5) : ∀ (m q e : Nat), E (kids ns) q m = some e → kidsI ns m q = some (intsUp (places (kids ns) m q))
 | 0, _, _, _ => rfl
 | m + 1, q, e, hE => by
  rw [Nat.add_comm, E_add] at hE
  cases h1 : E (kids ns) q 1 with
  | none => rw [h1] at hE; cases hE
  | some s =>
   rw [h1] at hE
   obtain ⟨K, hs⟩ := (skip_E hb hk h1).some
   rw [kidsI, show spec_l3Skip.f 0 ns q = some (s : Int) from hs, Option.bind_some, kids_E hb hk m s e hE]
   simp [places, h1, intsUp]
theorem kid_le {ns : List Node} {p e m : Nat} (h : E (kids ns) p m = some e) : m ≤ ns.length := by
 have := fin_bounds _ _ _ _ h
 simp only [kids, List.length_drop, List.length_map] at this
 omega
theorem kidsOf_f {ns : List Node} (hb : ns.length < 2 ^ 30) (hk : ∀ n ∈ ns, 0 ≤ n.f5) {p e : Nat} (hp : p < ns.length) (hE : E (kids ns) (p + 1) ((kids ns).getD p 0) = some e) :
  Ev (fun k => spec_l4KidsOf.f k ns p) (intsUp (places (kids ns) ((kids ns).getD p 0) (p + 1))) := by
 have h1 := kid_le hE
 have hr : rd_T95 ns (p : Int) = ns[p] := by simp [rd_T95, hp]
 have h0 := hk _ (List.getElem_mem hp)
 rw [kids_at hp] at hE h1 ⊢
 refine Ev.same (Ev.const _) fun k => ?_
 rw [spec_l4KidsOf.f, hr, if_pos ⟨by omega, by omega, by omega, by unfold kid at h1; omega⟩]
 exact kids_E hb hk _ (p + 1) e hE
theorem find_f (xs : List Int) (v : Int) (hb : xs.length < 2 ^ 62) : Ev (fun k => spec_l3Find.f k xs v) (match xs.findIdx? (fun n => decide (n = v)) with | some j => (j : Int) | none => -1) := by
 refine Ev.same (Ev.const _) fun k => ?_
 rw [spec_l3Find.f, fstI_idx, show (fun n : Int => n == v) = fun n => decide (n = v) from by funext n; rw [Bool.eq_iff_iff]; simp]
 cases xs.findIdx? (fun n => decide (n = v)) <;> simp
theorem places_kid {ks : List Nat} {P e : Nat} (hE : E ks (P + 1) (ks.getD P 0) = some e) {i : Nat} (hi : i < ks.getD P 0) : ∃ j, (places ks (ks.getD P 0) (P + 1))[i]? = some j ∧ E ks (P + 1) i = some j := by
 obtain ⟨q, hq, _, _⟩ := E_part hE (Nat.le_of_lt hi)
 exact ⟨q, places_at _ _ hE hi hq, hq⟩
theorem number_kid {ns : List Node} (hb : ns.length < 2 ^ 30) (hk : ∀ n ∈ ns, 0 ≤ n.f5) {P i b e : Nat} (hK : Kid (kids ns) P i b) (hE : E (kids ns) (P + 1) ((kids ns).getD P 0) = some e) : Ev (fun k => spec_l5Number.f k ns P b) (i : Int) := by
 have hp : P < ns.length := by have := hK.1; simpa [kids] using this
 have h1 := kidsOf_f hb hk hp hE
 have h2 := find_f (intsUp (places (kids ns) ((kids ns).getD P 0) (P + 1))) b (by simp only [intsUp, List.length_map, places_length]; have := kid_le hE; omega)
 have h3 : (intsUp (places (kids ns) ((kids ns).getD P 0) (P + 1))).findIdx? (fun n => decide (n = (b : Int))) = some i := by
  rw [List.findIdx?_eq_some_iff_getElem]
  have hl : (intsUp (places (kids ns) ((kids ns).getD P 0) (P + 1))).length = (kids ns).getD P 0 := by simp only [intsUp, List.length_map, places_length]
  refine ⟨by rw [hl]; exact hK.2.1, ?_, fun j hj => ?_⟩
  ·obtain ⟨q, h4, h5⟩ := places_kid hE hK.2.1
   obtain ⟨_, h6⟩ := List.getElem?_eq_some_iff.1 h4
   have := hK.2.2
   rw [h5] at this
   injection this with this
   simp only [intsUp, List.getElem_map, h6, this, decide_true]
  ·obtain ⟨q, h4, h5⟩ := places_kid hE (i := j) (by have := hK.2.1; omega)
   obtain ⟨_, h6⟩ := List.getElem?_eq_some_iff.1 h4
   have := E_lt h5 hK.2.2 hj
   simp only [intsUp, List.getElem_map, h6, decide_eq_true_eq]
   omega
 rw [h3] at h2
 exact Ev.bind (c := fun k t => spec_l3Find.f k t b) h1 h2
theorem number_none {ns : List Node} (hb : ns.length < 2 ^ 30) (hk : ∀ n ∈ ns, 0 ≤ n.f5) {P b e : Nat} (hp : P < ns.length) (hK : ∀ i, ¬ Kid (kids ns) P i b) (hE : E (kids ns) (P + 1) ((kids ns).getD P 0) = some e) : Ev (fun k => spec_l5Number.f k ns P b) (-1) := by
 have h1 := kidsOf_f hb hk hp hE
 have h2 := find_f (intsUp (places (kids ns) ((kids ns).getD P 0) (P + 1))) b (by simp only [intsUp, List.length_map, places_length]; have := kid_le hE; omega)
 have h3 : (intsUp (places (kids ns) ((kids ns).getD P 0) (P + 1))).findIdx? (fun n => decide (n = (b : Int))) = none := by
  rw [List.findIdx?_eq_none_iff]
  intro x hx
  simp only [intsUp, List.mem_map] at hx
  obtain ⟨q, hq, rfl⟩ := hx
  obtain ⟨i, hi, hqi⟩ := List.getElem_of_mem hq
  rw [places_length] at hi
  obtain ⟨q', h4, h5⟩ := places_kid hE hi
  obtain ⟨_, h6⟩ := List.getElem?_eq_some_iff.1 h4
  have hqq : q' = q := by rw [← h6, hqi]
  subst hqq
  rw [decide_eq_false_iff_not]
  intro he
  have : q' = b := by omega
  subst this
  exact hK i ⟨by simpa [kids] using hp, hi, h5⟩
 rw [h3] at h2
 exact Ev.bind (c := fun k t => spec_l3Find.f k t b) h1 h2
theorem place_E {ns : List Node} (hb : ns.length < 2 ^ 30) (hk : ∀ n ∈ ns, 0 ≤ n.f5) : ∀ (m q e : Nat), E (kids ns) q m = some e → placeI ns m q = some (e : Int)
 | 0, q, e, h => by
  rw [E_zero] at h
  injection h with h
  rw [h]
  rfl
 | m + 1, q, e, h => by
  rw [Nat.add_comm, E_add] at h
  cases h1 : E (kids ns) q 1 with
  | none => rw [h1] at h; cases h
  | some s =>
   rw [h1] at h
   obtain ⟨K, hs⟩ := (skip_E hb hk h1).some
   rw [placeI, show spec_l3Skip.f 0 ns q = some (s : Int) from hs]
   exact place_E hb hk m s e h
theorem place_f {ns : List Node} (hb : ns.length < 2 ^ 30) (hk : ∀ n ∈ ns, 0 ≤ n.f5) {P i e : Nat} (hP : P < ns.length) (hi : i < 2 ^ 31) (h : E (kids ns) (P + 1) i = some e) : Ev (fun k => spec_l5Place.f k ns P i) (e : Int) := by
 refine Ev.same (Ev.const _) fun k => ?_
 rw [spec_l5Place.f, if_pos ⟨by omega, by omega, by omega, by omega⟩]
 exact place_E hb hk i (P + 1) e h
theorem next_f {ns : List Node} (hb : ns.length < 2 ^ 30) (hk : ∀ n ∈ ns, 0 ≤ n.f5) {P i j e e2 : Nat} (hK : Kid (kids ns) P i j) (he : E (kids ns) j 1 = some e) (hE : E (kids ns) (P + 1) ((kids ns).getD P 0) = some e2) (he2 : e2 ≤ ns.length) : Ev (fun k => spec_l5Next.f k ns P i) (nextN ns P e) := by
 have hp : P < ns.length := by have := hK.1; simpa [kids] using this
 have hl : (intsUp (places (kids ns) ((kids ns).getD P 0) (P + 1))).length = (kids ns).getD P 0 := by simp only [intsUp, List.length_map, places_length]
 have hkl := kid_le hE
 have hE1 : E (kids ns) (P + 1) (i + 1) = some e := by rw [E_add, hK.2.2]; exact he
 have h1 := kidsOf_f hb hk hp hE
 have hi2 := hK.2.1
 have hii : (i : Int) + 1 = ((i + 1 : Nat) : Int) := rfl
 obtain ⟨K0, h1⟩ := h1
 refine ⟨K0, fun k hk2 => ?_⟩
 have h1 : spec_l4KidsOf.f k ns P = _ := h1 k hk2
 show spec_l5Next.f k ns P i = _
 rw [spec_l5Next.f, h1, Option.bind_some, if_pos ⟨by omega, by omega⟩, hii, hl]
 by_cases h : i + 1 < (kids ns).getD P 0
 ·obtain ⟨q, h4, h5⟩ := places_kid hE h
  rw [hE1] at h5
  injection h5 with h5
  subst h5
  obtain ⟨h7, h6⟩ := List.getElem?_eq_some_iff.1 h4
  have hlt := E_lt hE1 hE h
  have hn : nextN ns P e = (ns.getD e z95).f0 := by
   unfold nextN
   rw [hE, if_neg (by intro h; injection h; omega)]
  have hrd : rd (intsUp (places (kids ns) ((kids ns).getD P 0) (P + 1))) ((i + 1 : Nat) : Int) = (e : Int) := by
   have hg : ∀ l : List Int, l[i + 1]? = some (e : Int) → rd l ((i + 1 : Nat) : Int) = e := fun l h => by simp only [rd, Int.toNat_natCast, List.getD_eq_getElem?_getD, h]; rfl
   exact hg _ (by rw [intsUp, List.getElem?_map, h4]; rfl)
  have hr : (rd_T95 ns (e : Int)).f0 = nextN ns P e := by rw [hn]; rfl
  rw [if_pos (by omega), hrd, hr, if_pos ⟨by omega, by omega⟩]
 ·have hi : i + 1 = (kids ns).getD P 0 := by have := hK.2.1; omega
  have hn : nextN ns P e = -1 := by
   unfold nextN
   rw [← hi, hE1, if_pos rfl]
  rw [hn]
  rw [if_neg (by omega)]
theorem attr_l0 (nm : ByteArray) : ∀ (xs : List Attr) (i : Nat), fstI (fun x => x.f0.toList == nm.toList) xs i = idxI ((idxA nm xs).map (· + i))
 | [], _ => rfl
 | x :: r, i => by
  by_cases e : x.f0 = nm
  ·simp [fstI, idxA, e, idxI]
  ·have h := attr_l0 nm r (i + 1)
   rw [fstI, if_neg (by rw [beq_iff_eq, bytes_eq]; exact e), show (i : Int) + 1 = ((i + 1 : Nat) : Int) from rfl, h]
   simp only [idxA, e, if_false, Option.map_map]
   congr 2
   funext y
   simp
   omega
theorem attr_f (n : Node) (nm : ByteArray) (hb : n.f3.length < 2 ^ 62) : Ev (fun k => spec_l5Attr.f k n.f0 n.f1 n.f2 n.f3 n.f4 n.f5 nm) (idxI (idxA nm n.f3)) := by
 refine Ev.same (Ev.const _) fun k => ?_
 have h := attr_l0 nm n.f3 0
 rw [show (idxA nm n.f3).map (· + 0) = idxA nm n.f3 from by cases idxA nm n.f3 <;> rfl] at h
 exact congrArg some h
end Go.Proofs.YthjgohbkpjhkeaaGreatDoor.FireSpec
set_option maxHeartbeats 4000000
set_option maxRecDepth 100000
namespace Go.Proofs.YthjgohbkpjhkeaaGreatDoor.Impl
open Go.RowKit Go.Proofs.YthjgohbkpjhkeaaGreatDoorW.PrintWords Go.Proofs.YthjgohbkpjhkeaaGreatDoorW.PrintLast Go.Proofs.YthjgohbkpjhkeaaGreatDoorW.PrintMore Go.Proofs.YthjgohbkpjhkeaaGreatDoor.PFnExactDo Go.Proofs.YthjgohbkpjhkeaaGreatDoor.MapLib Go.Proofs.YthjgohbkpjhkeaaGreatDoor.FireSpec Go.Proofs.YthjgohbkpjhkeaaGreatDoor.Tr
structure SB (w W : World) (A0 : Option Addr) (n c0 : Nat) (C : Chg) (A : Option Addr) (c : Nat) : Prop where
 b : Below w.heap.size w W
 t : W.heap[w.heap.size]? = some (.cells #[.slice A0 n c0] 31)
 c : W.heap[w.heap.size + 1]? = some (mbox8 C A c 33)
theorem SB.two {w : World} {A0 : Option Addr} {n c0 : Nat} {C : Chg} {A : Option Addr} {c : Nat} : SB w ((w.alloc (.cells #[.slice A0 n c0] 31)).alloc (mbox8 C A c 33)) A0 n c0 C A c := by
 refine ⟨((Below.refl _ w).alloc (Nat.le_refl _) _).alloc (by simp) _, blk_below (blk_newest w _) ((Below.refl _ _).alloc (Nat.le_refl _) _), ?_⟩
 have := blk_newest (w.alloc (.cells #[.slice A0 n c0] 31)) (mbox8 C A c 33)
 exact (congrArg (fun k => ((w.alloc (.cells #[.slice A0 n c0] 31)).alloc (mbox8 C A c 33)).heap[k]?) (by simp : (w.alloc (.cells #[.slice A0 n c0] 31)).heap.size = w.heap.size + 1)).symm.trans this
section
variable {w W W' : World} {A0 : Option Addr} {n c0 : Nat} {C : Chg} {A : Option Addr} {c : Nat}
theorem SB.below (h : SB w W A0 n c0 C A c) (hb : Below W.heap.size W W') : SB w W' A0 n c0 C A c := ⟨below_step h.b hb, blk_below h.t hb, blk_below h.c hb⟩
theorem SB.cells (h : SB w W A0 n c0 C A c) : W.cell? ⟨w.heap.size, 0, none⟩ = some (.slice A0 n c0) ∧ W.cell? ⟨w.heap.size + 1, 0, none⟩ = some (.int .i64 C.f0) ∧ W.cell? ⟨w.heap.size + 1, 1, none⟩ = some (.int .i64 C.f1) ∧ W.cell? ⟨w.heap.size + 1, 2, none⟩ = some (.int .i64 C.f2) ∧ W.cell? ⟨w.heap.size + 1, 3, none⟩ = some (.int .i64 C.f3) ∧ W.cell? ⟨w.heap.size + 1, 4, none⟩ = some (.string C.f4) ∧ W.cell? ⟨w.heap.size + 1, 5, none⟩ = some (.string C.f5) ∧ W.cell? ⟨w.heap.size + 1, 6, none⟩ = some (.int .i64 C.f6) ∧ W.cell? ⟨w.heap.size + 1, 7, none⟩ = some (.slice A C.f7.length c) :=
 ⟨blk_cell h.t 0, cells8t h.c⟩
end
def aimEnd (w : World) (a b c : Int) (e : Ending) (w' : World) : Prop := e = .returned (.tuple #[.int .i64 a, .int .i64 b, .int .i64 c]) ∧ Below w.heap.size w w'
theorem aim_noParent (w : World) (ns : List S95) (C : Chg) (A0 : Option Addr) (c0 : Nat) (A : Option Addr) (c : Nat) (hr : Kd.C k95 w A0 ns.length ns) (hc : ns.length ≤ c0) (k1 : Nat) (h1 : spec_l4At.f k1 ns C.f2 = some (-1)) :
  Calls Tryz.prog 68 #[.agg #[.slice A0 ns.length c0], chv C A c] w (aimEnd w 0 0 2) := by
 have HR := am hr
 have HC := am hc
 have HK := am h1
 clear hr hc h1
 go_enter Tryz.func68, Tryz.ntmps68
 go_wp2_with fail
 have HS0 := am (SB.two (w := w) (A0 := A0) (n := ns.length) (c0 := c0) (C := C) (A := A) (c := c))
 generalize World.alloc _ _ = w1 at HS0 ⊢
 refine (spec_l4At.calls k1 A0 c0 ns C.f2 _ w1 (Kd.C_below HR.out HS0.out.b) HC.out HK.out).mono ?_
 rintro e w2 ⟨rfl, hb2⟩
 have HS2 := am (HS0.out.below hb2)
 clear hb2 HS0
 obtain ⟨xt, x0, x1, x2, x3, x4, x5, x6, x7⟩ := HS2.out.cells
 go_wp2
 go_ret3
 exact ⟨rfl, HS2.out.b⟩
theorem aim_end (w : World) (ns : List S95) (C : Chg) (A0 : Option Addr) (c0 : Nat) (A : Option Addr) (c : Nat) (hr : Kd.C k95 w A0 ns.length ns) (hc : ns.length ≤ c0) (k1 : Nat) (p : Nat) (hp : p < ns.length) (h1 : spec_l4At.f k1 ns C.f2 = some (p : Int)) (hd : C.f3 = -1) :
  Calls Tryz.prog 68 #[.agg #[.slice A0 ns.length c0], chv C A c] w (aimEnd w p (ns.getD p z95).f5 0) := by
 have HR := am hr
 have HC := am hc
 have HK := am h1
 clear hr hc h1
 have HD := am hd
 clear hd
 go_enter Tryz.func68, Tryz.ntmps68
 go_wp2_with fail
 have HS0 := am (SB.two (w := w) (A0 := A0) (n := ns.length) (c0 := c0) (C := C) (A := A) (c := c))
 generalize World.alloc _ _ = w1 at HS0 ⊢
 refine (spec_l4At.calls k1 A0 c0 ns C.f2 _ w1 (Kd.C_below HR.out HS0.out.b) HC.out HK.out).mono ?_
 rintro e w2 ⟨rfl, hb2⟩
 have HS2 := am (HS0.out.below hb2)
 clear hb2 HS0
 obtain ⟨xt, x0, x1, x2, x3, x4, x5, x6, x7⟩ := HS2.out.cells
 have e1 : decide ((p : Int) < 0) = false := decide_eq_false (by omega)
 have e2 : (C.f3 == -1) = true := by rw [HD.out]; rfl
 obtain ⟨ad, A3, c3, rfl, hx0, hx1, hx2, hx3, hx4, hx5, hl3, hi3⟩ := at_T95 (Kd.C_below HR.out HS2.out.b) (p : Int) (by omega) (by omega)
 have e3 := eq_true (show (0 : Int) ≤ (p : Int) from by omega)
 have e4 := eq_true (show (p : Int) < (ns.length : Int) from by omega)
 simp only [Int.toNat_natCast] at hx0 hx1 hx2 hx3 hx4 hx5
 have hx5' : ∀ m, (w2.drewN m).cell? ⟨(ad.add (p * 6)).block, (ad.add (p * 6)).off + 5, none⟩ = _ := fun _ => hx5
 go_wp2
 go_quiet (fail)
 go_wp2
 go_ret3
 exact ⟨rfl, by repeat (first | exact HS2.out.b | apply pw_below_drewN | apply below_drew1)⟩
theorem aim_noBefore (w : World) (ns : List S95) (C : Chg) (A0 : Option Addr) (c0 : Nat) (A : Option Addr) (c : Nat) (hr : Kd.C k95 w A0 ns.length ns) (hc : ns.length ≤ c0) (k1 : Nat) (p : Nat) (hp : p < ns.length) (h1 : spec_l4At.f k1 ns C.f2 = some (p : Int)) (hd : C.f3 ≠ -1) (k2 : Nat) (h2 : spec_l4At.f k2 ns C.f3 = some (-1)) :
  Calls Tryz.prog 68 #[.agg #[.slice A0 ns.length c0], chv C A c] w (aimEnd w 0 0 2) := by
 have HR := am hr
 have HC := am hc
 have HK := am h1
 clear hr hc h1
 have HD := am hd
 clear hd
 have H2 := am h2
 clear h2
 go_enter Tryz.func68, Tryz.ntmps68
 go_wp2_with fail
 have HS0 := am (SB.two (w := w) (A0 := A0) (n := ns.length) (c0 := c0) (C := C) (A := A) (c := c))
 generalize World.alloc _ _ = w1 at HS0 ⊢
 refine (spec_l4At.calls k1 A0 c0 ns C.f2 _ w1 (Kd.C_below HR.out HS0.out.b) HC.out HK.out).mono ?_
 rintro e w2 ⟨rfl, hb2⟩
 have HS2 := am (HS0.out.below hb2)
 clear hb2 HS0
 obtain ⟨xt, x0, x1, x2, x3, x4, x5, x6, x7⟩ := HS2.out.cells
 have e2 : (C.f3 == -1) = false := by simpa using HD.out
 have e1 : decide ((p : Int) < 0) = false := decide_eq_false (by omega)
 go_wp2_with fail
 refine (spec_l4At.calls k2 A0 c0 ns C.f3 _ w2 (Kd.C_below HR.out HS2.out.b) HC.out H2.out).mono ?_
 rintro e w3 ⟨rfl, hb3⟩
 have HS3 := am (HS2.out.below hb3)
 clear hb3 HS2 xt x0 x1 x2 x3 x4 x5 x6 x7
 obtain ⟨xt, x0, x1, x2, x3, x4, x5, x6, x7⟩ := HS3.out.cells
 go_wp2
 go_ret3
 exact ⟨rfl, HS3.out.b⟩
theorem aim_noKid (w : World) (ns : List S95) (C : Chg) (A0 : Option Addr) (c0 : Nat) (A : Option Addr) (c : Nat) (hr : Kd.C k95 w A0 ns.length ns) (hc : ns.length ≤ c0) (k1 : Nat) (p : Nat) (hp : p < ns.length) (h1 : spec_l4At.f k1 ns C.f2 = some (p : Int)) (hd : C.f3 ≠ -1) (k2 b : Nat) (h2 : spec_l4At.f k2 ns C.f3 = some (b : Int)) (k3 : Nat) (h3 : spec_l5Number.f k3 ns p b = some (-1)) :
  Calls Tryz.prog 68 #[.agg #[.slice A0 ns.length c0], chv C A c] w (aimEnd w 0 0 2) := by
 have HR := am hr
 have HC := am hc
 have HK := am h1
 clear hr hc h1
 have HD := am hd
 clear hd
 have H2 := am h2
 clear h2
 have H3 := am h3
 clear h3
 go_enter Tryz.func68, Tryz.ntmps68
 go_wp2_with fail
 have HS0 := am (SB.two (w := w) (A0 := A0) (n := ns.length) (c0 := c0) (C := C) (A := A) (c := c))
 generalize World.alloc _ _ = w1 at HS0 ⊢
 refine (spec_l4At.calls k1 A0 c0 ns C.f2 _ w1 (Kd.C_below HR.out HS0.out.b) HC.out HK.out).mono ?_
 rintro e w2 ⟨rfl, hb2⟩
 have HS2 := am (HS0.out.below hb2)
 clear hb2 HS0
 obtain ⟨xt, x0, x1, x2, x3, x4, x5, x6, x7⟩ := HS2.out.cells
 have e2 : (C.f3 == -1) = false := by simpa using HD.out
 have e1 : decide ((p : Int) < 0) = false := decide_eq_false (by omega)
 go_wp2_with fail
 refine (spec_l4At.calls k2 A0 c0 ns C.f3 _ w2 (Kd.C_below HR.out HS2.out.b) HC.out H2.out).mono ?_
 rintro e w3 ⟨rfl, hb3⟩
 have HS3 := am (HS2.out.below hb3)
 clear hb3 HS2 xt x0 x1 x2 x3 x4 x5 x6 x7
 obtain ⟨xt, x0, x1, x2, x3, x4, x5, x6, x7⟩ := HS3.out.cells
 have e3 : decide ((b : Int) < 0) = false := decide_eq_false (by omega)
 go_wp2_with fail
 refine (spec_l5Number.calls k3 A0 c0 ns p b _ w3 (Kd.C_below HR.out HS3.out.b) HC.out H3.out).mono ?_
 rintro e w4 ⟨rfl, hb4⟩
 have HB4 := am (below_step HS3.out.b hb4)
 clear hb4
 go_wp2
 go_ret3
 exact ⟨rfl, HB4.out⟩
theorem aim_kid (w : World) (ns : List S95) (C : Chg) (A0 : Option Addr) (c0 : Nat) (A : Option Addr) (c : Nat) (hr : Kd.C k95 w A0 ns.length ns) (hc : ns.length ≤ c0) (k1 : Nat) (p : Nat) (hp : p < ns.length) (h1 : spec_l4At.f k1 ns C.f2 = some (p : Int)) (hd : C.f3 ≠ -1) (k2 b : Nat) (h2 : spec_l4At.f k2 ns C.f3 = some (b : Int)) (k3 i : Nat) (h3 : spec_l5Number.f k3 ns p b = some (i : Int)) :
  Calls Tryz.prog 68 #[.agg #[.slice A0 ns.length c0], chv C A c] w (aimEnd w p i 0) := by
 have HR := am hr
 have HC := am hc
 have HK := am h1
 clear hr hc h1
 have HD := am hd
 clear hd
 have H2 := am h2
 clear h2
 have H3 := am h3
 clear h3
 go_enter Tryz.func68, Tryz.ntmps68
 go_wp2_with fail
 have HS0 := am (SB.two (w := w) (A0 := A0) (n := ns.length) (c0 := c0) (C := C) (A := A) (c := c))
 generalize World.alloc _ _ = w1 at HS0 ⊢
 refine (spec_l4At.calls k1 A0 c0 ns C.f2 _ w1 (Kd.C_below HR.out HS0.out.b) HC.out HK.out).mono ?_
 rintro e w2 ⟨rfl, hb2⟩
 have HS2 := am (HS0.out.below hb2)
 clear hb2 HS0
 obtain ⟨xt, x0, x1, x2, x3, x4, x5, x6, x7⟩ := HS2.out.cells
 have e2 : (C.f3 == -1) = false := by simpa using HD.out
 have e1 : decide ((p : Int) < 0) = false := decide_eq_false (by omega)
 go_wp2_with fail
 refine (spec_l4At.calls k2 A0 c0 ns C.f3 _ w2 (Kd.C_below HR.out HS2.out.b) HC.out H2.out).mono ?_
 rintro e w3 ⟨rfl, hb3⟩
 have HS3 := am (HS2.out.below hb3)
 clear hb3 HS2 xt x0 x1 x2 x3 x4 x5 x6 x7
 obtain ⟨xt, x0, x1, x2, x3, x4, x5, x6, x7⟩ := HS3.out.cells
 have e3 : decide ((b : Int) < 0) = false := decide_eq_false (by omega)
 go_wp2_with fail
 refine (spec_l5Number.calls k3 A0 c0 ns p b _ w3 (Kd.C_below HR.out HS3.out.b) HC.out H3.out).mono ?_
 rintro e w4 ⟨rfl, hb4⟩
 have HB4 := am (below_step HS3.out.b hb4)
 clear hb4
 have e5 : decide ((i : Int) < 0) = false := decide_eq_false (by omega)
 go_wp2
 go_ret3
 exact ⟨rfl, HB4.out⟩
end Go.Proofs.YthjgohbkpjhkeaaGreatDoor.Impl
namespace Go.Proofs.YthjgohbkpjhkeaaGreatDoor.Impl
open Go.RowKit Go.Proofs.YthjgohbkpjhkeaaGreatDoorW.PrintWords Go.Proofs.YthjgohbkpjhkeaaGreatDoorW.PrintLast Go.Proofs.YthjgohbkpjhkeaaGreatDoorW.PrintMore Go.Proofs.YthjgohbkpjhkeaaGreatDoor.PFnExactDo Go.Proofs.YthjgohbkpjhkeaaGreatDoor.MapLib Go.Proofs.YthjgohbkpjhkeaaGreatDoor.FireSpec Go.Proofs.YthjgohbkpjhkeaaGreatDoor.Tr Go.Proofs.YthjgohbkpjhkeaaGreatDoor.Fo
section
variable {ns : List S95} {w0 w w' W : World} {g base : Nat} {bs : List Nat} {KV : Nat → Value}
theorem IsF.lower {b' : Nat} (hb : b' ≤ base) : ∀ (f : Fo TW) (up : Value) (i : Nat), IsF w0 w base up i f → IsF w0 w b' up i f
 | .nil, _, _, _ => trivial
 | .node x k r, up, i, ⟨⟨h1, h2, h3, h4⟩, h5, h6⟩ => ⟨⟨h1, Nat.le_trans hb h2, h3, Kd.R_lower h4 hb⟩, IsF.lower hb k _ _ h5, IsF.lower hb r _ _ h6⟩
theorem twigB_kv {b : Nat} {n : S95} {A A' : Option Addr} {c c' : Nat} {kv kv' up up' : Value} {pl pl' : Int} (h : TwigB w b n A c kv up pl) (h' : TwigB w b n A' c' kv' up' pl') : kv = kv' := by
 have h1 : w.heap[b]? = _ := h
 rw [h'] at h1
 injection h1 with h1
 injection h1 with h1 _
 simp [twigCells] at h1
 exact h1.2.1.symm
theorem insert_end (h : Plot ns w0 w g base bs KV) (C : Chg) (A : Option Addr) (c : Nat) (hC : Kd.C k95 w A C.f7.length C.f7) (hat : ∀ n ∈ C.f7, n.f3.length ≤ 1000000000) (hkk : ∀ n ∈ C.f7, 0 ≤ n.f5) (hn : C.f7.length ≤ 1100000) (he : E (kids C.f7) 0 1 = some C.f7.length) (p : Nat) (hp2 : place ns C.f2 = some p) (hbf : C.f3 = -1 ∨ (C.f3 ≠ -1 ∧ ∃ b, place ns C.f3 = some b ∧ parOf (kids ns) b = some p)) :
  Calls Tryz.prog 147 #[chv C A c, .pointer (some ⟨g, 0, none⟩)] w (DoEnd w g base (bs.getD 0 0) (outI ns C).1 (outI ns C).2) := by
 have hS := h.stand
 have hpl := (place_some hp2).1
 have hbw := h.bw
 have hol : ns.length ≤ 100000000 := by have := h.ln; omega
 have key : ∃ t tkf Bt i2, Spot ns (treeF ns bs KV) p (goalPos ns C p) t tkf Bt i2 ∧ t.b = bs.getD p 0 ∧ Ahead w (if C.f3 = -1 then .pointer none else lkv ns bs C.f3) i2 (len tkf) := by
  rcases hbf with hf | ⟨hf, b, hb1, hb2⟩
  ·obtain ⟨t, tkf, Bt, hsp, h1, h2⟩ := hS.spotEnd hpl
   refine ⟨t, tkf, Bt, _, by unfold goalPos; rw [if_pos hf]; exact hsp, h1, ?_⟩
   rw [if_pos hf]
   exact .inl ⟨rfl, rfl⟩
  ·obtain ⟨ib, hKb⟩ := parOf_some hb2
   obtain ⟨t, tkf, Bt, xq, kq, hsp, hlt, h1, h2, h3⟩ := hS.spotKid hKb
   refine ⟨t, tkf, Bt, _, by unfold goalPos; rw [if_neg hf, hb1, Option.getD_some]; exact hsp, h1, ?_⟩
   rw [if_neg hf]
   obtain ⟨Aq, cq, _, hq⟩ := h3.1.1
   refine .inr ⟨xq.b, _, _, _, _, _, ?_, hq⟩
   unfold lkv
   rw [hb1, h2]
 obtain ⟨t, tkf, Bt, i2, hsp, htb, hah⟩ := key
 obtain ⟨A3, c3, up3, pl3, hgt⟩ := hsp.to hS hbw hol hah
 have htbl : lkv ns bs C.f2 = .pointer (some ⟨t.b, 0, none⟩) := by unfold lkv; rw [hp2, htb]; rfl
 have hout : outI ns C = (⟨2, (C.f7.getD 0 z95).f0, 0, 0, ⟨#[]⟩, ⟨#[]⟩, 0, []⟩, putN ns p (goalPos ns C p) C.f7) := by unfold outI; rw [hp2]; rfl
 rw [hout]
 refine (insert_do w g ns bs C A c h.gm h.bl h.nd hC hat hkk hn he base t.b i2 htbl t.n A3 c3 t.kv up3 pl3 (bsOf tkf) hgt).mono (fun en w' hd => ?_)
 obtain ⟨he1, w6, w7, w8, w9, bs2, lv, KV2, hb6, hs6, hb7, hgr, hb8, ⟨A4, c4, kv4, up4, pl4, hx8, hrow8, hr9⟩, hz⟩ := hd
 have hsz : w.heap.size ≤ w6.heap.size ∧ w6.heap.size ≤ w7.heap.size ∧ w7.heap.size ≤ w8.heap.size ∧ w8.heap.size ≤ w9.heap.size := ⟨hb6.size, hb7.size, hb8.size, hr9.kept.1⟩
 have hb68 : Below w6.heap.size w6 w8 := below_step hb7 hb8
 have hb08 : Below w.heap.size w w8 := below_step hb6 hb68
 have hpos : 0 < C.f7.length := by have := (E_bounds he).2 (by omega); omega
 have hkv : kv4 = t.kv := twigB_kv hx8 (blk_below hgt.x hb08)
 subst hkv
 have hkb := (hgr.fresh 0 hpos).1
 have hltl : ∀ b ∈ bsOf tkf, b < w.heap.size := fun b hb => by
  obtain ⟨n, A, c, kv, up, pl, h1⟩ := hgt.kids b hb
  exact blk_lt h1
 have hR : Part w6 (w.heap.size + 2) w' := fun k hk1 hk2 => by
  rw [hz.far k (by omega)]
  refine (hr9.kept.2 k (by omega) ?_).trans (hb68.block k hk2)
  rintro (e | e | e)
  ·have := blk_lt hgt.x; omega
  ·have := (row_base hgt.row k e).2; omega
  ·rcases List.mem_append.1 e with e | e
   ·have := hltl k (List.mem_of_mem_take e); omega
   ·rcases List.mem_cons.1 e with e | e
    ·omega
    ·have := hltl k (List.mem_of_mem_drop e); omega
 have hI2 := isF_tree (w0 := w') hgr hR he (fun n hn => hat n hn) hkk
 have hnd2 := foot_tree hgr he
 have hns2 := nodes_tree (bs := bs2) (KV := KV2) he
 have hbl2 := blocks_tree (KV := KV2) he hgr.len
 obtain ⟨xg, kg, hxg⟩ := root_of (tree_flat (bs := bs2) (KV := KV2) he).1
 rw [hxg] at hI2 hnd2 hns2 hbl2
 have hxb : xg.b = bs2.getD 0 0 := by rw [← hbl2]; simp [flat]
 have hBB : ∀ B, B ≤ base → Below B w w' := fun B hB => hz.below _ _ ((hb08.mono (by omega)).trans (hr9.below B hB)) (by omega)
 have hB : Below w0.heap.size w0 w' := h.b0.trans (h.be ▸ hBB base (Nat.le_refl _))
 have hmem : ∀ b ∈ tfoot xg kg, w6.heap.size ≤ b ∧ b < w7.heap.size := fun b hb => by
  have hb' : b ∈ foot (Fo.node xg kg .nil) := by simpa [foot, tfoot] using hb
  have := hI2.typed _ _ _ b hb'
  exact ⟨this.1, this.2.1⟩
 have hS8 : Stand ns w' w8 base bs (treeF ns bs KV) := (hS.below hb08).lift hB
 obtain ⟨x2, k2, hx2, hI3, hn3⟩ := hsp.given (w9 := w9) hS8 ⟨_, _, IsF.lower (by omega) _ _ _ (hI2.below hb8)⟩ (fun b hb => ⟨fun hm => by
  have h1 := (hS.isF.typed _ _ _ b hm).2.1
  have := (hmem b hb).1
  omega, by have := (hmem b hb).2; omega⟩) (by simpa [foot, tfoot] using hnd2) hx8 (by rw [hxb]; exact hr9)
 rw [hns2] at hn3
 refine ⟨none, 0, x2, k2, he1, Kd.S_nil _ _ _ _ _, ?_, hx2, hI3.setZ hz, hn3, hBB⟩
 obtain ⟨mb, hm, _⟩ := h.gm
 have hty : ∀ k ∈ (bsOf tkf).take i2 ++ bs2.getD 0 0 :: (bsOf tkf).drop i2, ∃ n A c kv up pl, TwigB w8 k n A c kv up pl := fun k hk => by
  have old : ∀ k ∈ bsOf tkf, ∃ n A c kv up pl, TwigB w8 k n A c kv up pl := fun k hk => by
   obtain ⟨n, A, c, kv, up, pl, h1⟩ := hgt.kids k hk
   exact ⟨n, A, c, kv, up, pl, blk_below h1 hb08⟩
  rcases List.mem_append.1 hk with hk | hk
  ·exact old k (List.mem_of_mem_take hk)
  ·rcases List.mem_cons.1 hk with rfl | hk
   ·obtain ⟨Ar, cr, _, _, hr⟩ := hgr.root
    exact ⟨_, _, _, _, _, _, blk_below hr hb8⟩
   ·exact old k (List.mem_of_mem_drop hk)
 have m9 := hr9.other hx8 ⟨_, hrow8⟩ hty (blk_below hm hb08) (by decide) (by decide)
 refine blk_cell ((hz.far g (fun e => ?_)).trans m9) 0
 obtain ⟨cs, hcs⟩ := hz.typed
 rw [← e, m9] at hcs
 injection hcs with hcs
 injection hcs with _ hcs
 exact absurd hcs (by decide)
end
end Go.Proofs.YthjgohbkpjhkeaaGreatDoor.Impl
set_option maxHeartbeats 4000000
set_option maxRecDepth 100000
namespace Go.Proofs.YthjgohbkpjhkeaaGreatDoor.Impl
open Go.RowKit Go.Proofs.YthjgohbkpjhkeaaGreatDoorW.PrintWords Go.Proofs.YthjgohbkpjhkeaaGreatDoorW.PrintLast Go.Proofs.YthjgohbkpjhkeaaGreatDoorW.PrintMore Go.Proofs.YthjgohbkpjhkeaaGreatDoor.PFnExactDo Go.Proofs.YthjgohbkpjhkeaaGreatDoor.MapLib Go.Proofs.YthjgohbkpjhkeaaGreatDoor.FireSpec Go.Proofs.YthjgohbkpjhkeaaGreatDoor.Tr Go.Proofs.YthjgohbkpjhkeaaGreatDoor.Fo
def actT (k : Int) : Nat := if k = 1 then 159 else if k = 2 then 160 else if k = 3 then 161 else if k = 4 then 162 else if k = 5 then 163 else if k = 6 then 164 else 165
theorem actOf_calls (C : Chg) (A : Option Addr) (c : Nat) (w : World) :
  Calls Tryz.prog 76 #[chv C A c] w fun e w' => e = .returned (.iface (actT C.f0) (chv C A c)) ∧ Below w.heap.size w w' := by
 have hut := Tryz.underlying33
 have h1 := Tryz.underlying159
 have h2 := Tryz.underlying160
 have h3 := Tryz.underlying161
 have h4 := Tryz.underlying162
 have h5 := Tryz.underlying163
 have h6 := Tryz.underlying164
 have h7 := Tryz.underlying165
 have hb : Below w.heap.size w (w.alloc (boxC C A c)) := (Below.refl _ w).alloc (Nat.le_refl _) _
 have HB := am hb
 clear hb
 unfold boxC at HB
 by_cases k1 : C.f0 = 1
 ·have HE := am (show actT C.f0 = 159 by unfold actT;  rw [if_pos k1])
  have q1 : ((C.f0 : Int) == 1) = true := by rw [k1]; rfl
  clear k1
  go_enter Tryz.func76, Tryz.ntmps76
  go_wp2
  go_ret
  rw [HE.out]
  exact ⟨rfl, HB.out⟩
 by_cases k2 : C.f0 = 2
 ·have HE := am (show actT C.f0 = 160 by unfold actT; rw [if_neg k1]; rw [if_pos k2])
  have q1 : ((C.f0 : Int) == 1) = false := by simpa using k1
  have q2 : ((C.f0 : Int) == 2) = true := by rw [k2]; rfl
  clear k1 k2
  go_enter Tryz.func76, Tryz.ntmps76
  go_wp2
  go_ret
  rw [HE.out]
  exact ⟨rfl, HB.out⟩
 by_cases k3 : C.f0 = 3
 ·have HE := am (show actT C.f0 = 161 by unfold actT; rw [if_neg k1]; rw [if_neg k2]; rw [if_pos k3])
  have q1 : ((C.f0 : Int) == 1) = false := by simpa using k1
  have q2 : ((C.f0 : Int) == 2) = false := by simpa using k2
  have q3 : ((C.f0 : Int) == 3) = true := by rw [k3]; rfl
  clear k1 k2 k3
  go_enter Tryz.func76, Tryz.ntmps76
  go_wp2
  go_ret
  rw [HE.out]
  exact ⟨rfl, HB.out⟩
 by_cases k4 : C.f0 = 4
 ·have HE := am (show actT C.f0 = 162 by unfold actT; rw [if_neg k1]; rw [if_neg k2]; rw [if_neg k3]; rw [if_pos k4])
  have q1 : ((C.f0 : Int) == 1) = false := by simpa using k1
  have q2 : ((C.f0 : Int) == 2) = false := by simpa using k2
  have q3 : ((C.f0 : Int) == 3) = false := by simpa using k3
  have q4 : ((C.f0 : Int) == 4) = true := by rw [k4]; rfl
  clear k1 k2 k3 k4
  go_enter Tryz.func76, Tryz.ntmps76
  go_wp2
  go_ret
  rw [HE.out]
  exact ⟨rfl, HB.out⟩
 by_cases k5 : C.f0 = 5
 ·have HE := am (show actT C.f0 = 163 by unfold actT; rw [if_neg k1]; rw [if_neg k2]; rw [if_neg k3]; rw [if_neg k4]; rw [if_pos k5])
  have q1 : ((C.f0 : Int) == 1) = false := by simpa using k1
  have q2 : ((C.f0 : Int) == 2) = false := by simpa using k2
  have q3 : ((C.f0 : Int) == 3) = false := by simpa using k3
  have q4 : ((C.f0 : Int) == 4) = false := by simpa using k4
  have q5 : ((C.f0 : Int) == 5) = true := by rw [k5]; rfl
  clear k1 k2 k3 k4 k5
  go_enter Tryz.func76, Tryz.ntmps76
  go_wp2
  go_ret
  rw [HE.out]
  exact ⟨rfl, HB.out⟩
 by_cases k6 : C.f0 = 6
 ·have HE := am (show actT C.f0 = 164 by unfold actT; rw [if_neg k1]; rw [if_neg k2]; rw [if_neg k3]; rw [if_neg k4]; rw [if_neg k5]; rw [if_pos k6])
  have q1 : ((C.f0 : Int) == 1) = false := by simpa using k1
  have q2 : ((C.f0 : Int) == 2) = false := by simpa using k2
  have q3 : ((C.f0 : Int) == 3) = false := by simpa using k3
  have q4 : ((C.f0 : Int) == 4) = false := by simpa using k4
  have q5 : ((C.f0 : Int) == 5) = false := by simpa using k5
  have q6 : ((C.f0 : Int) == 6) = true := by rw [k6]; rfl
  clear k1 k2 k3 k4 k5 k6
  go_enter Tryz.func76, Tryz.ntmps76
  go_wp2
  go_ret
  rw [HE.out]
  exact ⟨rfl, HB.out⟩
 have HE := am (show actT C.f0 = 165 by unfold actT; rw [if_neg k1]; rw [if_neg k2]; rw [if_neg k3]; rw [if_neg k4]; rw [if_neg k5]; rw [if_neg k6])
 have q1 : ((C.f0 : Int) == 1) = false := by simpa using k1
 have q2 : ((C.f0 : Int) == 2) = false := by simpa using k2
 have q3 : ((C.f0 : Int) == 3) = false := by simpa using k3
 have q4 : ((C.f0 : Int) == 4) = false := by simpa using k4
 have q5 : ((C.f0 : Int) == 5) = false := by simpa using k5
 have q6 : ((C.f0 : Int) == 6) = false := by simpa using k6
 clear k1 k2 k3 k4 k5 k6
 go_enter Tryz.func76, Tryz.ntmps76
 go_wp2
 go_ret
 rw [HE.out]
 exact ⟨rfl, HB.out⟩
end Go.Proofs.YthjgohbkpjhkeaaGreatDoor.Impl
