/- Part 32 of the proof: DoHeld, DoLawB, DoEq. -/
import Derived.Test.YthjgohbkpjhkeaaGreatDoorA1
import Derived.Test.YthjgohbkpjhkeaaGreatDoorA31
import Derived.Deep.RegionHeld3
import Derived.Test.YthjgohbkpjhkeaaGreatDoorA10
set_option linter.unusedVariables false
set_option linter.unusedSimpArgs false
set_option maxHeartbeats 4000000
set_option maxRecDepth 100000
namespace Go.Proofs.YthjgohbkpjhkeaaGreatDoor.Impl
open Go.RowKit Go.Proofs.YthjgohbkpjhkeaaGreatDoorW.PrintWords Go.Proofs.YthjgohbkpjhkeaaGreatDoorW.PrintLast Go.Proofs.YthjgohbkpjhkeaaGreatDoorW.PrintMore Go.Proofs.YthjgohbkpjhkeaaGreatDoor.PFnExactDo Go.Proofs.YthjgohbkpjhkeaaGreatDoor.MapLib Go.Proofs.YthjgohbkpjhkeaaGreatDoor.FireSpec Go.Proofs.YthjgohbkpjhkeaaGreatDoor.Tr
def IntEnd (w : World) (b : Int) (e : Ending) (w' : World) : Prop := e = .returned (.int .i64 b) ∧ Below w.heap.size w w'
theorem heldAttrS_calls (xs : List S149) (a r : Int) (h0 : 0 ≤ a) (hb : a + 2 * xs.length ≤ 288230376151711744) (hre : r = a + 2 * xs.length) (A : Option Addr) (c : Nat) (w : World) (hr : Kd.C k149 w A xs.length xs) (hc : xs.length ≤ c) (hH : FireSpec.HeldA xs a) :
  Calls Tryz.prog 81 #[.slice A xs.length c, .int .i64 a] w (IntEnd w r) := by
 have HX := am (And.intro hr (And.intro h0 (And.intro hb hre)))
 have HH := am hH
 have hn : xs.length ≤ 288230376151711744 := by omega
 clear hr hH h0 hb hre
 go_enter Tryz.func81, Tryz.ntmps81
 go_wp2
 go_loopg [1, 5] (xs.length + 1) (fun kq v1 v5 wr => ∃ (i : Nat) (m : Int), v1 = .int .i64 m ∧ v5 = .int .i64 i ∧ Aside0 (i + kq = xs.length + 1 ∧ i ≤ xs.length ∧ m = a + 2 * i ∧ FireSpec.HeldA (xs.drop i) m) ∧ Aside0 (Below w.heap.size w wr))
 case atStart => exact ⟨0, a, rfl, rfl, ⟨by omega, by omega, by omega, HH.out⟩, ⟨Below.refl _ _⟩⟩
 case round =>
  obtain ⟨i, m, rfl, rfl, HI, HB⟩ := hrel
  have hd : decide ((i : Int) < (xs.length : Int)) = decide (i < xs.length) := by simp
  by_cases hlt : i < xs.length
  ·have hd2 : decide (i < xs.length) = true := decide_eq_true hlt
   rw [hd2] at hd
   have hib : (i : Int) ≤ 288230376151711744 := by omega
   have hm0 : 0 ≤ m ∧ m ≤ 288230376151711744 := by have h1 := HI.out.2.2.1; have h2 := HX.out.2; omega
   obtain ⟨hm0, hm1⟩ := hm0
   have e3 := eq_true (show (0 : Int) ≤ (i : Int) from by omega)
   have e4 := eq_true (show (i : Int) < xs.length from by omega)
   obtain ⟨ad, hA, hx0, hx1⟩ := at_T149 (Kd.C_below HX.out.1 HB.out) (i : Int) (by omega) (by omega)
   subst hA
   have hh := HI.out.2.2.2
   rw [List.drop_eq_getElem_cons hlt] at hh
   rw [show rd_T149 xs (i : Int) = xs[i] from by simp [rd_T149, hlt]] at hx0 hx1
   simp only [Int.toNat_natCast] at hx0 hx1
   generalize xs[i] = x at hx0 hx1 hh
   obtain ⟨⟨k1, h1⟩, ⟨k2, h2⟩, hrest⟩ := hh
   have HT1 := am (fun W => laws_markText.calls k1 m x.f0 W (h1 k1 (Nat.le_refl _)))
   have HT2 := am (fun W => laws_markText.calls k2 (m + 1) x.f1 W (h2 k2 (Nat.le_refl _)))
   have HST := am (show ∀ W, Below wr.heap.size wr W → W.cell? (ad.add (i * 2)) = some (.string x.f0) ∧ W.cell? ⟨(ad.add (i * 2)).block, (ad.add (i * 2)).off + 1, none⟩ = some (.string x.f1) from fun W hW => ⟨pw_cell_below hW hx0, pw_cell_below hW hx1⟩)
   have HI2 := am (And.intro hlt hrest)
   have HD1 := am (And.intro (Below.refl wr.heap.size wr) (Below.refl wr.heap.size wr).drew)
   clear hlt hrest h1 h2 hn hx0 hx1
   go_wp2_with fail
   go_cut [19] (fun v19 wc => v19 = .bool false ∧ Aside0 (Below wr.heap.size wr wc))
   case first =>
    go_region_held3 (fun W => W.cell? (ad.add (i * 2)) = some (.string x.f0)) (first | (with_reducible exact (HST.out _ HD1.out.1).1) | (with_reducible exact (HST.out _ HD1.out.2).1) | (with_reducible exact (HST.out _ HB6.out).1) | go_keep) (first | (go_at_call 54; refine (HT1.out _).mono ?_; rintro e w6 ⟨rfl, hb6⟩; have HB6 := am (show Below wr.heap.size wr w6 from (by with_reducible first | exact hb6 | exact below_step HD1.out.2 hb6)); clear hb6) | fail)
    all_goals
     go_wp2
     go_meet
     case rel => exact ⟨rfl, ⟨by with_reducible exact HB6.out⟩⟩
   case rest =>
    obtain ⟨rfl, HC1⟩ := hcut
    rename World => w1
    go_wp2_with fail
    have HD2 := am (And.intro (Below.refl w1.heap.size w1) (Below.refl w1.heap.size w1).drew)
    have HS2 := am (fun W (hW : Below w1.heap.size w1 W) => (HST.out W (below_step HC1.out hW)).2)
    go_cut [29] (fun v29 wc => v29 = .bool false ∧ Aside0 (Below w1.heap.size w1 wc))
    case first =>
     go_region_held3 (fun W => W.cell? ⟨(ad.add (i * 2)).block, (ad.add (i * 2)).off + 1, none⟩ = some (.string x.f1)) (first | (with_reducible exact HS2.out _ HD2.out.1) | (with_reducible exact HS2.out _ HD2.out.2) | (with_reducible exact HS2.out _ HB6.out) | go_keep) (first | (go_at_call 54; refine (HT2.out _).mono ?_; rintro e w6 ⟨rfl, hb6⟩; have HB6 := am (show Below w1.heap.size w1 w6 from (by with_reducible first | exact hb6 | exact below_step HD2.out.2 hb6)); clear hb6) | fail)
     all_goals
      go_wp2
      go_meet
      case rel => exact ⟨rfl, ⟨by with_reducible exact HB6.out⟩⟩
    case rest =>
     obtain ⟨rfl, HC3⟩ := hcut
     go_wp2
     have hii : (i : Int) + 1 = ((i + 1 : Nat) : Int) := by omega
     go_roundg (gk - 1)
     case measure => have := HI.out; omega
     case rel => exact ⟨i + 1, _, rfl, by rw [hii], ⟨by have := HI.out; omega, HI2.out.1, by have := HI.out.2.2.1; omega, HI2.out.2⟩, ⟨below_step HB.out (below_step HC1.out HC3.out)⟩⟩
  ·have hd2 : decide (i < xs.length) = false := decide_eq_false hlt
   rw [hd2] at hd
   have HE := am (show r = m from by have := HI.out; have := HX.out.2; omega)
   clear hlt
   go_wp2
   go_ret
   rw [HE.out]
   exact ⟨rfl, HB.out⟩
theorem heldNodeS_calls (A : Option Addr) (c : Nat) (xs : List S95) (a b : Int) (w : World) (hr : Kd.C k95 w A xs.length xs) (hc : xs.length ≤ c) (hH : HeldAt xs a b) (h0 : 0 ≤ a) (hb : a + cost xs < 2 ^ 58) :
  Calls Tryz.prog 47 #[.slice A xs.length c, .int .i64 a] w (IntEnd w b) := by
 have HX := am (And.intro hr (And.intro hc (And.intro h0 hb)))
 have HH := am hH
 have hxl := len_cost xs
 have hxb : xs.length ≤ 288230376151711744 := by omega
 clear hr hc hH h0 hb hxl
 go_enter Tryz.func47, Tryz.ntmps47
 go_wp2
 go_loopg [1, 5] (xs.length + 1) (fun kq v1 v5 wr => ∃ (i : Nat) (m : Int), v1 = .int .i64 m ∧ v5 = .int .i64 i ∧ Aside0 (i + kq = xs.length + 1 ∧ i ≤ xs.length ∧ a ≤ m ∧ m = a + cost (xs.take i) ∧ HeldAt (xs.drop i) m b) ∧ Aside0 (Below w.heap.size w wr))
 case atStart => exact ⟨0, a, rfl, rfl, ⟨by omega, by omega, Int.le_refl _, by simp [cost], HH.out⟩, ⟨Below.refl _ _⟩⟩
 case round =>
  obtain ⟨i, m, rfl, rfl, HI, HB⟩ := hrel
  by_cases hlt : i < xs.length
  ·have hd : decide ((i : Int) < (xs.length : Int)) = true := decide_eq_true (by omega)
   have hd2 : decide (i < xs.length) = true := decide_eq_true hlt
   have hi0 : (i : Int) < xs.length := by omega
   have hib : (i : Int) ≤ 288230376151711744 := by omega
   have hcst := cost_take xs i hlt
   have hctl := cost_le xs (i + 1)
   have hh := HI.out.2.2.2.2
   rw [List.drop_eq_getElem_cons hlt] at hh
   obtain ⟨nd, hnd⟩ : ∃ nd, xs[i] = nd := ⟨_, rfl⟩
   have hget : xs.getD i z95 = nd := by rw [getD_of hlt, hnd]
   rw [hnd] at hh
   rw [hget] at hcst
   obtain ⟨e0, e1, e2, e3, e4, e5, hrest⟩ := hh
   obtain ⟨ad, A3, c3, hA, hx0, hx1, hx2, hx3, hx4, hx5, hl3, hi3⟩ := at_T95 (Kd.C_below HX.out.1 HB.out) (i : Int) (by omega) (by omega)
   rw [show rd_T95 xs (i : Int) = nd from by show xs.getD (Int.toNat i) _ = nd; rw [Int.toNat_natCast]; exact hget] at hx0 hx1 hx2 hx3 hx4 hx5 hl3 hi3
   simp only [Int.toNat_natCast] at hx0 hx1 hx2 hx3 hx4 hx5
   subst hA
   have HI2 := am hlt
   obtain ⟨n0, n1, t1, ys, t2, n5⟩ := nd
   simp only at e0 e1 e2 e3 e4 e5 hrest hx0 hx1 hx2 hx3 hx4 hx5 hl3 hi3 hcst
   subst e0
   obtain ⟨m5, hm5⟩ : ∃ m5, m5 = n0 + 3 + 2 * (ys.length : Int) := ⟨_, rfl⟩
   have hmb : 0 ≤ n0 ∧ n0 ≤ 288230376151711744 ∧ 0 ≤ m5 ∧ m5 ≤ 288230376151711744 := by have h1 := HI.out; have h2 := HX.out; omega
   obtain ⟨hm0, hmm, hm50, hm52⟩ := hmb
   rw [show n0 + 3 + 2 * (ys.length : Int) = m5 from hm5.symm] at e4
   have hn1 : n1 = n0 + 1 := e1
   have hn5 : n5 = m5 + 1 := by omega
   subst hn1 hn5
   obtain ⟨k1, hk1⟩ := e2.some
   obtain ⟨k3, hk3⟩ := e4.some
   have HT1 := am (show ∀ W, Calls Tryz.prog 54 #[.int .i64 (n0 + 1 + 1)] W fun e w' => e = .returned (.string t1) ∧ Below W.heap.size W w' from fun W => laws_markText.calls k1 (n0 + 1 + 1) t1 W (by rw [show n0 + 1 + 1 = n0 + 2 from by omega]; exact hk1))
   have HT2 := am (show ∀ W, Calls Tryz.prog 54 #[.int .i64 m5] W fun e w' => e = .returned (.string t2) ∧ Below W.heap.size W w' from fun W => laws_markText.calls k3 m5 t2 W hk3)
   have HHA := am (show ∀ W, Below wr.heap.size wr W → Calls Tryz.prog 81 #[.slice A3 ys.length c3, .int .i64 (n0 + 1 + 1 + 1)] W fun e w' => e = .returned (.int .i64 m5) ∧ Below W.heap.size W w' from fun W hW => heldAttrS_calls ys (n0 + 1 + 1 + 1) m5 (by omega) (by omega) (by omega) A3 c3 W (Kd.C_below hi3 hW) hl3 (by rw [show n0 + 1 + 1 + 1 = n0 + 3 from by omega]; exact e3))
   have HI3 := am (show i + 1 + (gk - 1) = xs.length + 1 ∧ 0 < gk ∧ m5 + 2 = a + cost (xs.take (i + 1)) ∧ HeldAt (xs.drop (i + 1)) (m5 + 2) b from by
    have h1 := HI.out
    rw [show n0 + 5 + 2 * (ys.length : Int) = m5 + 2 from by omega] at hrest
    exact ⟨by omega, by omega, by omega, hrest⟩)
   have HST := am (show ∀ W, Below wr.heap.size wr W → W.cell? (ad.add (i * 6)) = some (.int .i64 n0) ∧ W.cell? ⟨(ad.add (i * 6)).block, (ad.add (i * 6)).off + 1, none⟩ = some (.int .i64 (n0 + 1)) ∧ W.cell? ⟨(ad.add (i * 6)).block, (ad.add (i * 6)).off + 2, none⟩ = some (.string t1) ∧ W.cell? ⟨(ad.add (i * 6)).block, (ad.add (i * 6)).off + 3, none⟩ = some (.slice A3 ys.length c3) ∧ W.cell? ⟨(ad.add (i * 6)).block, (ad.add (i * 6)).off + 4, none⟩ = some (.string t2) ∧ W.cell? ⟨(ad.add (i * 6)).block, (ad.add (i * 6)).off + 5, none⟩ = some (.int .i64 (m5 + 1)) from fun W hW => ⟨pw_cell_below hW hx0, pw_cell_below hW hx1, pw_cell_below hW hx2, pw_cell_below hW hx3, pw_cell_below hW hx4, pw_cell_below hW hx5⟩)
   have hys : (ys.length : Int) ≤ 288230376151711744 := by omega
   clear hlt hcst hctl e1 e2 e3 e4 e5 hrest hk1 hk3 hl3 hi3 hm5 hnd hget
   have e3 := eq_true (show (0 : Int) ≤ (i : Int) from by omega)
   have e4 := eq_true hi0
   go_wp2_with fail
   have HD1 := am (And.intro (Below.refl wr.heap.size wr) (Below.refl wr.heap.size wr).drew)
   have HSA1 := am (show ∀ W, Below wr.heap.size wr W → W.cell? ⟨(ad.add (i * 6)).block, (ad.add (i * 6)).off + 2, none⟩ = some (.string t1) from fun W hW => (HST.out W (hW)).2.2.1)
   go_cut [37] (fun v37 wc => v37 = .bool false ∧ Aside0 (Below wr.heap.size wr wc))
   case first =>
    go_region_held3 (fun W => W.cell? ⟨(ad.add (i * 6)).block, (ad.add (i * 6)).off + 2, none⟩ = some (.string t1)) (first | (with_reducible exact HSA1.out _ HD1.out.1) | (with_reducible exact HSA1.out _ HD1.out.2) | (with_reducible exact HSA1.out _ HB6.out) | go_keep) (first | (go_at_call 54; refine (HT1.out _).mono ?_; rintro e w6 ⟨rfl, hb6⟩; have HB6 := am (show Below wr.heap.size wr w6 from (by with_reducible first | exact hb6 | exact below_step HD1.out.2 hb6)); clear hb6) | fail)
    all_goals
     go_wp2
     go_meet
     case rel => exact ⟨rfl, ⟨by with_reducible exact HB6.out⟩⟩
   case rest =>
    obtain ⟨rfl, HC1⟩ := hcut
    rename World => w1
    clear hx0 hx1 hx2 hx3 hx4 hx5
    obtain ⟨_, _, _, hx3, hx4, _⟩ := HST.out w1 HC1.out
    go_wp2_with (first | (go_at_call 81; refine (HHA.out _ HC1.out).mono ?_; rintro e w2 ⟨rfl, hb2⟩; have HC2 := am (below_step HC1.out hb2); have hm5d : decide (m5 < 0) = false := decide_eq_false (by omega); clear hb2) | fail)
    have HD2 := am (And.intro (Below.refl w2.heap.size w2) (Below.refl w2.heap.size w2).drew)
    have HSA2 := am (show ∀ W, Below w2.heap.size w2 W → W.cell? ⟨(ad.add (i * 6)).block, (ad.add (i * 6)).off + 4, none⟩ = some (.string t2) from fun W hW => (HST.out W (below_step HC2.out hW)).2.2.2.2.1)
    go_cut [56] (fun v37 wc => v37 = .bool false ∧ Aside0 (Below w2.heap.size w2 wc))
    case first =>
     go_region_held3 (fun W => W.cell? ⟨(ad.add (i * 6)).block, (ad.add (i * 6)).off + 4, none⟩ = some (.string t2)) (first | (with_reducible exact HSA2.out _ HD2.out.1) | (with_reducible exact HSA2.out _ HD2.out.2) | (with_reducible exact HSA2.out _ HB6.out) | go_keep) (first | (go_at_call 54; refine (HT2.out _).mono ?_; rintro e w6 ⟨rfl, hb6⟩; have HB6 := am (show Below w2.heap.size w2 w6 from (by with_reducible first | exact hb6 | exact below_step HD2.out.2 hb6)); clear hb6) | fail)
     all_goals
      go_wp2
      go_meet
      case rel => exact ⟨rfl, ⟨by with_reducible exact HB6.out⟩⟩
    case rest =>
     obtain ⟨rfl, HC3⟩ := hcut
     rename World => w3
     have HC4 := am (below_step HC2.out HC3.out)
     clear hx3 hx4
     obtain ⟨_, _, _, _, _, hx5⟩ := HST.out w3 HC4.out
     go_wp2
     have hii : (i : Int) + 1 = ((i + 1 : Nat) : Int) := by omega
     go_roundg (gk - 1)
     case measure => have := HI3.out; omega
     case rel => exact ⟨i + 1, _, rfl, by rw [hii], ⟨HI3.out.1, HI2.out, by have h1 := HI3.out; have h2 := HI.out; omega, by have := HI3.out.2.2.1; omega, by rw [show m5 + 1 + 1 = m5 + 2 from by omega]; exact HI3.out.2.2.2⟩, ⟨below_step HB.out HC4.out⟩⟩
  ·have hd : decide ((i : Int) < (xs.length : Int)) = false := decide_eq_false (by omega)
   have hd2 : decide (i < xs.length) = false := decide_eq_false hlt
   clear hlt
   go_wp2
   go_ret
   have hi : i = xs.length := by have := HI.out; simp at hd2; omega
   have h3 := HI.out.2.2.2.2
   rw [hi, List.drop_length] at h3
   have h4 : m = b := h3
   subst h4
   exact ⟨rfl, HB.out⟩
theorem heldTree_calls (A : Option Addr) (c : Nat) (xs : List S95) (a b : Int) (w : World) (hr : Kd.C k95 w A xs.length xs) (hc : xs.length ≤ c) (hH : HeldAt xs a b) (h0 : 0 ≤ a) (hb : a + cost xs < 2 ^ 58) :
  Calls Tryz.prog 18 #[.agg #[.slice A xs.length c], .int .i64 a] w (IntEnd w b) := by
 have hut := Tryz.underlying31
 have hal : Below w.heap.size w (w.alloc (Obj.cells #[.slice A xs.length c] 31)) := (Below.refl _ _).alloc (Nat.le_refl _) _
 have hb0 : decide (b < 0) = false := decide_eq_false (by have := hH.cost; omega)
 have HC := am (heldNodeS_calls A c xs a b _ (Kd.C_below hr hal) hc hH h0 hb)
 have HAL := am hal
 clear hr hc hH h0 hb hal
 go_enter Tryz.func18, Tryz.ntmps18
 go_wp2_with (first | (go_at_call 47; refine HC.out.mono ?_; rintro e w5 ⟨rfl, h1⟩; have HE := am (below_step HAL.out h1); clear h1))
 go_ret
 exact ⟨rfl, HE.out⟩
theorem heldChange_calls (C : Chg) (xs : List S95) (A : Option Addr) (c : Nat) (a b : Int) (w : World) (hl : xs.length = C.f7.length) (hr : Kd.C k95 w A xs.length xs) (hc : xs.length ≤ c) (hH : HeldAt xs a b) (h0 : 0 ≤ a) (hb : a + cost xs < 2 ^ 58) :
  Calls Tryz.prog 19 #[chv C A c, .int .i64 a] w (IntEnd w b) := by
 have hut := Tryz.underlying33
 have hal : Below w.heap.size w (w.alloc (mbox8 C A c 33)) := (Below.refl _ _).alloc (Nat.le_refl _) _
 have hb0 : decide (b < 0) = false := decide_eq_false (by have := hH.cost; omega)
 have h := heldNodeS_calls A c xs a b _ (Kd.C_below hr hal) hc hH h0 hb
 rw [hl] at h
 have HC := am h
 have HAL := am hal
 clear hr hc hH h0 hb hal h
 go_enter Tryz.func19, Tryz.ntmps19
 go_wp2_with (first | (go_at_call 47; refine HC.out.mono ?_; rintro e w5 ⟨rfl, h1⟩; have HE := am (below_step HAL.out h1); clear h1))
 go_ret
 exact ⟨rfl, HE.out⟩
structure Small (xs : List S95) : Prop where
 n : xs.length ≤ 1048576
 a : ∀ n ∈ xs, n.f3.length ≤ 1048577
theorem Small.nil : Small [] := ⟨Nat.zero_le _, by simp⟩
theorem cost_bound : ∀ xs : List S95, (∀ n ∈ xs, n.f3.length ≤ 1048577) → cost xs ≤ xs.length * 2097159
 | [], _ => by simp [cost]
 | x :: xs, h => by
  have h1 := cost_bound xs (fun n hn => h n (List.mem_cons_of_mem _ hn))
  have h2 := h x List.mem_cons_self
  have e : cost (x :: xs) = (5 + 2 * x.f3.length) + cost xs := by simp [cost]
  rw [e, List.length_cons, Nat.succ_mul]
  omega
theorem Small.cost {xs : List S95} (h : Small xs) : Impl.cost xs ≤ 2199030595584 := by
 have h1 := cost_bound xs h.a
 have h2 : xs.length * 2097159 ≤ 1048576 * 2097159 := Nat.mul_le_mul_right _ h.n
 omega
theorem recs_f7 (ns : List S95) (C : Chg) : (actOut ns C).1.f7 = [] ∨ ∃ j e, (actOut ns C).1.f7 = (ns.take e).drop j := by
 unfold actOut
 split
 ·exact .inl rfl
 split
 ·exact .inr ⟨_, _, rfl⟩
 split
 ·exact .inl rfl
 split
 ·unfold outA
  simp only
  split
  ·exact .inl rfl
  ·exact .inl rfl
 split
 ·exact .inl rfl
 ·exact .inl rfl
theorem res_small {ns : List S95} {C : Chg} (h : Small ns) (ha : ∀ n ∈ ns, n.f3.length ≤ 1048576) (hc : ∀ n ∈ C.f7, n.f3.length ≤ 1048576) : Small (doRes ns C).1 ∧ Small (doRes ns C).2.1.f7 := by
 unfold doRes
 split
 ·rename_i hok
  split
  ·exact ⟨Small.nil, Small.nil⟩
  ·split
   ·rename_i ho
    obtain ⟨_, h2, _⟩ := treeOk_parts ho
    refine ⟨⟨show (actOut ns C).2.length ≤ 1048576 by omega, out_att ha hc⟩, ?_⟩
    show Small (actOut ns C).1.f7
    rcases recs_f7 ns C with h3 | ⟨j, e, h3⟩
    ·rw [h3]; exact Small.nil
    ·rw [h3]
     exact ⟨by have := h.n; simp only [List.length_drop, List.length_take]; omega, fun n hn => h.a n (List.mem_of_mem_take (List.mem_of_mem_drop hn))⟩
   ·exact ⟨Small.nil, Small.nil⟩
 ·exact ⟨Small.nil, Small.nil⟩
abbrev boxTL (n : Nat) (A : Option Addr) (c : Nat) : Obj := .cells #[.slice A n c] 24
abbrev mboxL (C : LChg) (A : Option Addr) (c : Nat) : Obj := .cells #[.int .i64 C.f0, .int .i64 C.f1, .int .i64 C.f2, .int .i64 C.f3, .string C.f4, .string C.f5, .int .i64 C.f6, .slice A C.f7.length c] 26
abbrev chvL (C : LChg) (A : Option Addr) (c : Nat) : Value := .agg #[.int .i64 C.f0, .int .i64 C.f1, .int .i64 C.f2, .int .i64 C.f3, .string C.f4, .string C.f5, .int .i64 C.f6, .slice A C.f7.length c]
theorem cells8L {W : World} {b : Nat} {C : LChg} {A : Option Addr} {c : Nat} (h : W.heap[b]? = some (mboxL C A c)) : W.cell? ⟨b, 0, none⟩ = some (.int .i64 C.f0) ∧ W.cell? ⟨b, 1, none⟩ = some (.int .i64 C.f1) ∧ W.cell? ⟨b, 2, none⟩ = some (.int .i64 C.f2) ∧ W.cell? ⟨b, 3, none⟩ = some (.int .i64 C.f3) ∧ W.cell? ⟨b, 4, none⟩ = some (.string C.f4) ∧ W.cell? ⟨b, 5, none⟩ = some (.string C.f5) ∧ W.cell? ⟨b, 6, none⟩ = some (.int .i64 C.f6) ∧ W.cell? ⟨b, 7, none⟩ = some (.slice A C.f7.length c) :=
 ⟨blk_cell h 0, blk_cell h 1, blk_cell h 2, blk_cell h 3, blk_cell h 4, blk_cell h 5, blk_cell h 6, blk_cell h 7⟩
structure L0 (w W : World) (A : Option Addr) (n c : Nat) (C : LChg) (AC : Option Addr) (cC : Nat) : Prop where
 b : Below w.heap.size w W
 t : W.heap[w.heap.size]? = some (boxTL n A c)
 c : W.heap[w.heap.size + 1]? = some (mboxL C AC cC)
theorem L0.two {w : World} {A : Option Addr} {n c : Nat} {C : LChg} {AC : Option Addr} {cC : Nat} : L0 w ((w.alloc (boxTL n A c)).alloc (mboxL C AC cC)) A n c C AC cC := by
 refine ⟨((Below.refl _ w).alloc (Nat.le_refl _) _).alloc (by simp) _, blk_below (blk_newest w _) ((Below.refl _ _).alloc (Nat.le_refl _) _), ?_⟩
 have := blk_newest (w.alloc (boxTL n A c)) (mboxL C AC cC)
 exact (congrArg (fun k => ((w.alloc (boxTL n A c)).alloc (mboxL C AC cC)).heap[k]?) (by simp : (w.alloc (boxTL n A c)).heap.size = w.heap.size + 1)).symm.trans this
section
variable {w W W' : World} {A : Option Addr} {n c : Nat} {C : LChg} {AC : Option Addr} {cC : Nat}
theorem L0.below (h : L0 w W A n c C AC cC) (hb : Below W.heap.size W W') : L0 w W' A n c C AC cC := ⟨below_step h.b hb, blk_below h.t hb, blk_below h.c hb⟩
theorem L0.kept {S : Nat → Prop} (h : L0 w W A n c C AC cC) (hk : Kept W W' S) (hb : Below w.heap.size w W') (hS : ∀ k, S k → w.heap.size + 2 ≤ k) : L0 w W' A n c C AC cC :=
 ⟨hb, blk_kept h.t hk (fun h => by have := hS _ h; omega), blk_kept h.c hk (fun h => by have := hS _ h; omega)⟩
end
end Go.Proofs.YthjgohbkpjhkeaaGreatDoor.Impl
set_option maxHeartbeats 4000000
set_option maxRecDepth 100000
namespace Go.Proofs.YthjgohbkpjhkeaaGreatDoor.Impl
open Go.RowKit Go.Proofs.YthjgohbkpjhkeaaGreatDoor.MapLib Go.Proofs.YthjgohbkpjhkeaaGreatDoorW.PrintWords Go.Proofs.YthjgohbkpjhkeaaGreatDoorW.PrintLast Go.Proofs.YthjgohbkpjhkeaaGreatDoorW.PrintMore Go.Proofs.YthjgohbkpjhkeaaGreatDoor.PFnExactDo
def BoolEnd (W : World) (e : Ending) (w' : World) : Prop := e = .returned (.bool true) ∧ Below W.heap.size W w'
theorem eqBoxes (w : World) (a b : Obj) : Below w.heap.size w ((w.alloc a).alloc b) := ((Below.refl _ _).alloc (Nat.le_refl _) _).alloc (by simp) _
theorem eqBoxes2 (w : World) (a b : Obj) : ((w.alloc a).alloc b).heap[w.heap.size]? = some a ∧ ((w.alloc a).alloc b).heap[w.heap.size + 1]? = some b :=
 ⟨blk_below (blk_newest w _) ((Below.refl _ _).alloc (Nat.le_refl _) _), (congrArg (fun k => ((w.alloc a).alloc b).heap[k]?) (by simp : (w.alloc a).heap.size = w.heap.size + 1)).symm.trans (blk_newest (w.alloc a) b)⟩
theorem eqAttr_same (s t : ByteArray) (w : World) : Calls Tryz.prog 124 #[.agg #[.string s, .string t], .agg #[.string s, .string t]] w (BoolEnd w) := by
 have hut := Tryz.underlying149
 have HB := am (eqBoxes w (Obj.cells #[.string s, .string t] 149) (Obj.cells #[.string s, .string t] 149))
 go_enter Tryz.func124, Tryz.ntmps124
 go_wp2
 go_ret
 exact ⟨rfl, HB.out⟩
theorem eqAttrS_same (xs : List S149) (hn : xs.length < 2 ^ 58) (w : World) (A1 : Option Addr) (c1 : Nat) (A2 : Option Addr) (c2 : Nat) (h1 : Kd.C k149 w A1 xs.length xs) (hc1 : xs.length ≤ c1) (h2 : Kd.C k149 w A2 xs.length xs) (hc2 : xs.length ≤ c2) :
  Calls Tryz.prog 109 #[.slice A1 xs.length c1, .slice A2 xs.length c2] w (BoolEnd w) := by
 have HX := am (And.intro h1 h2)
 clear h1 h2
 go_enter Tryz.func109, Tryz.ntmps109
 go_wp2
 go_loopg [5] (xs.length + 1) (fun kq v5 wr => ∃ (i : Nat), v5 = .int .i64 i ∧ Aside0 (i + kq = xs.length + 1 ∧ i ≤ xs.length) ∧ Aside0 (Below w.heap.size w wr))
 case atStart => exact ⟨0, rfl, ⟨by omega, by omega⟩, ⟨Below.refl _ _⟩⟩
 case round =>
  obtain ⟨i, rfl, HI, HB⟩ := hrel
  have hd : decide ((i : Int) < (xs.length : Int)) = decide (i < xs.length) := by simp
  by_cases hlt : i < xs.length
  ·have hd2 : decide (i < xs.length) = true := decide_eq_true hlt
   rw [hd2] at hd
   have hib : (i : Int) ≤ 288230376151711744 := by omega
   have e3 := eq_true (show (0 : Int) ≤ (i : Int) from by omega)
   have e4 := eq_true (show (i : Int) < xs.length from by omega)
   obtain ⟨ad, hA, hx0, hx1⟩ := at_T149 (Kd.C_below HX.out.1 HB.out) (i : Int) (by omega) (by omega)
   obtain ⟨ae, hE, hy0, hy1⟩ := at_T149 (Kd.C_below HX.out.2 HB.out) (i : Int) (by omega) (by omega)
   subst hA hE
   have HI2 := am hlt
   clear hlt
   simp only [Int.toNat_natCast] at hx0 hx1 hy0 hy1
   obtain ⟨s, hs⟩ : ∃ s, (rd_T149 xs (i : Int)).f0 = s := ⟨_, rfl⟩
   obtain ⟨t, ht⟩ : ∃ t, (rd_T149 xs (i : Int)).f1 = t := ⟨_, rfl⟩
   rw [hs] at hx0 hy0
   rw [ht] at hx1 hy1
   clear hs ht
   have HD := am (And.intro (Below.refl wr.heap.size wr) (Below.refl wr.heap.size wr).drew)
   have HS := am (show ∀ W, Below wr.heap.size wr W → W.cell? (ad.add (i * 2)) = some (.string s) ∧ W.cell? ⟨(ad.add (i * 2)).block, (ad.add (i * 2)).off + 1, none⟩ = some (.string t) ∧ W.cell? (ae.add (i * 2)) = some (.string s) ∧ W.cell? ⟨(ae.add (i * 2)).block, (ae.add (i * 2)).off + 1, none⟩ = some (.string t) from fun W hW => ⟨pw_cell_below hW hx0, pw_cell_below hW hx1, pw_cell_below hW hy0, pw_cell_below hW hy1⟩)
   clear hx0 hx1 hy0 hy1
   go_wp2_with fail
   refine start_ (S := fun W => W.cell? (ad.add (i * 2)) = some (.string s) ∧ W.cell? ⟨(ad.add (i * 2)).block, (ad.add (i * 2)).off + 1, none⟩ = some (.string t) ∧ W.cell? (ae.add (i * 2)) = some (.string s) ∧ W.cell? ⟨(ae.add (i * 2)).block, (ae.add (i * 2)).off + 1, none⟩ = some (.string t)) (ds := []) _ (by kernel_rfl) rfl rfl (HS.out _ HD.out.2) (fun hHeld => ?_)
   repeat ((first | refine pu 0 17 (v := ?_) (a' := ?_) rfl rfl rfl (by kernel_rfl) (fun _ _ _ h => h) (Or.inl ⟨by rfl, ?_⟩) ?_ ?_ | refine pu 1 18 (v := ?_) (a' := ?_) rfl rfl rfl (by kernel_rfl) (fun _ _ _ h => h) (Or.inl ⟨by rfl, ?_⟩) ?_ ?_ | refine pu 2 19 (v := ?_) (a' := ?_) rfl rfl rfl (by kernel_rfl) (fun _ _ _ h => h) (Or.inl ⟨by rfl, ?_⟩) ?_ ?_ | refine pu 4 21 (v := ?_) (a' := ?_) rfl rfl rfl (by kernel_rfl) (fun _ _ _ h => h) (Or.inl ⟨by rfl, ?_⟩) ?_ ?_ | refine pu 5 22 (v := ?_) (a' := ?_) rfl rfl rfl (by kernel_rfl) (fun _ _ _ h => h) (Or.inl ⟨by rfl, ?_⟩) ?_ ?_ | refine pu 6 23 (v := ?_) (a' := ?_) rfl rfl rfl (by kernel_rfl) (fun _ _ _ h => h) (Or.inl ⟨by rfl, ?_⟩) ?_ ?_); rotate_left; (intro w'; go_simp; with_reducible rfl); rotate_left; (simp only [Act.put, List.setIfInBounds_toArray, List.set_cons_zero, List.set_cons_succ, i64_w, i32_w]; rfl))
   repeat ((first | refine tk 3 20 (v := ?_) (a' := ?_) rfl rfl rfl (by kernel_rfl) (fun _ _ _ h => h) (Or.inl ⟨by rfl, ?_⟩) hHeld ?_ ?_ | refine tk 7 24 (v := ?_) (a' := ?_) rfl rfl rfl (by kernel_rfl) (fun _ _ _ h => h) (Or.inl ⟨by rfl, ?_⟩) hHeld ?_ ?_); rotate_left; (rintro w' ⟨s0, s1, s2, s3⟩; go_simp; with_reducible rfl); rotate_left; (simp only [Act.put, List.setIfInBounds_toArray, List.set_cons_zero, List.set_cons_succ, i64_w, i32_w]; rfl))
   refine on1 8 25 rfl rfl rfl (by kernel_rfl) (by decide) (fun K hK => ?_)
   refine goes_ Tryz.func124 (by kernel_rfl) rfl #[.agg #[.string s, .string t], .agg #[.string s, .string t]] (by rfl) rfl rfl (by simp only [List.map_toArray, List.map_cons, List.map_nil]; rfl) ?_
   refine (eqAttr_same s t _).mono ?_
   rintro e w2 ⟨rfl, hb2⟩
   have HC2 := am (below_step HD.out.2 hb2)
   refine ⟨_, rfl, hK.out _ _ (HS.out _ HC2.out) (fun hHeld => ?_)⟩
   refine norm_ (a' := ?_) ?_ ?_
   rotate_left
   ·show Act.put _ (some 25) _ = _
    simp only [Act.put, List.setIfInBounds_toArray, List.set_cons_zero, List.set_cons_succ, i64_w, i32_w]
    rfl
   (refine pu 9 26 (v := ?_) (a' := ?_) rfl rfl rfl (by kernel_rfl) (fun _ _ _ h => h) (Or.inl ⟨by rfl, ?_⟩) ?_ ?_; rotate_left; (intro w'; go_simp; with_reducible rfl); rotate_left; (simp only [Act.put, List.setIfInBounds_toArray, List.set_cons_zero, List.set_cons_succ, i64_w, i32_w]; rfl))
   refine done_ (by kernel_rfl) ?_
   go_wp2
   have hii : (i : Int) + 1 = ((i + 1 : Nat) : Int) := by omega
   go_roundg (gk - 1)
   case measure => have := HI.out; omega
   case rel => exact ⟨i + 1, by rw [hii], ⟨by have := HI.out; omega, HI2.out⟩, ⟨below_step HB.out HC2.out⟩⟩
  ·have hd2 : decide (i < xs.length) = false := decide_eq_false hlt
   rw [hd2] at hd
   clear hlt
   go_wp2
   go_ret
   exact ⟨rfl, HB.out⟩
theorem eqNode_same (n0 n1 : Int) (s t : ByteArray) (n5 : Int) (xs : List S149) (hn : xs.length < 2 ^ 58) (w : World) (A1 : Option Addr) (c1 : Nat) (A2 : Option Addr) (c2 : Nat) (h1 : Kd.C k149 w A1 xs.length xs) (hc1 : xs.length ≤ c1) (h2 : Kd.C k149 w A2 xs.length xs) (hc2 : xs.length ≤ c2) :
  Calls Tryz.prog 79 #[.agg #[.int .i64 n0, .int .i64 n1, .string s, .slice A1 xs.length c1, .string t, .int .i64 n5], .agg #[.int .i64 n0, .int .i64 n1, .string s, .slice A2 xs.length c2, .string t, .int .i64 n5]] w (BoolEnd w) := by
 have hut := Tryz.underlying95
 have hb := eqBoxes w (Obj.cells #[.int .i64 n0, .int .i64 n1, .string s, .slice A1 xs.length c1, .string t, .int .i64 n5] 95) (Obj.cells #[.int .i64 n0, .int .i64 n1, .string s, .slice A2 xs.length c2, .string t, .int .i64 n5] 95)
 have HC := am (eqAttrS_same xs hn _ A1 c1 A2 c2 (Kd.C_below h1 hb) hc1 (Kd.C_below h2 hb) hc2)
 have HB := am hb
 clear h1 h2 hb
 have HX := am (eqBoxes2 w (Obj.cells #[.int .i64 n0, .int .i64 n1, .string s, .slice A1 xs.length c1, .string t, .int .i64 n5] 95) (Obj.cells #[.int .i64 n0, .int .i64 n1, .string s, .slice A2 xs.length c2, .string t, .int .i64 n5] 95))
 go_enter Tryz.func79, Tryz.ntmps79
 go_wp2_with (first | (go_at_call 109; refine HC.out.mono ?_; rintro e w2 ⟨rfl, hb2⟩; have HC2 := am (below_step HB.out hb2); have x4 : w2.cell? ⟨w.heap.size, 4, none⟩ = some (.string t) := blk_cell (blk_below HX.out.1 hb2) 4; have x5 : w2.cell? ⟨w.heap.size, 5, none⟩ = some (.int .i64 n5) := blk_cell (blk_below HX.out.1 hb2) 5; have y4 : w2.cell? ⟨w.heap.size + 1, 4, none⟩ = some (.string t) := blk_cell (blk_below HX.out.2 hb2) 4; have y5 : w2.cell? ⟨w.heap.size + 1, 5, none⟩ = some (.int .i64 n5) := blk_cell (blk_below HX.out.2 hb2) 5; clear hb2) | fail)
 go_ret
 exact ⟨rfl, HC2.out⟩
theorem eqNodeS_same (xs : List S95) (hn : xs.length < 2 ^ 58) (ha : ∀ n ∈ xs, n.f3.length < 2 ^ 58) (w : World) (A1 : Option Addr) (c1 : Nat) (A2 : Option Addr) (c2 : Nat) (h1 : Kd.C k95 w A1 xs.length xs) (hc1 : xs.length ≤ c1) (h2 : Kd.C k95 w A2 xs.length xs) (hc2 : xs.length ≤ c2) :
  Calls Tryz.prog 45 #[.slice A1 xs.length c1, .slice A2 xs.length c2] w (BoolEnd w) := by
 have HX := am (And.intro h1 h2)
 clear h1 h2
 go_enter Tryz.func45, Tryz.ntmps45
 go_wp2
 go_loopg [5] (xs.length + 1) (fun kq v5 wr => ∃ (i : Nat), v5 = .int .i64 i ∧ Aside0 (i + kq = xs.length + 1 ∧ i ≤ xs.length) ∧ Aside0 (Below w.heap.size w wr))
 case atStart => exact ⟨0, rfl, ⟨by omega, by omega⟩, ⟨Below.refl _ _⟩⟩
 case round =>
  obtain ⟨i, rfl, HI, HB⟩ := hrel
  have hd : decide ((i : Int) < (xs.length : Int)) = decide (i < xs.length) := by simp
  by_cases hlt : i < xs.length
  ·have hd2 : decide (i < xs.length) = true := decide_eq_true hlt
   rw [hd2] at hd
   have hib : (i : Int) ≤ 288230376151711744 := by omega
   have e3 := eq_true (show (0 : Int) ≤ (i : Int) from by omega)
   have e4 := eq_true (show (i : Int) < xs.length from by omega)
   have hlm := ha _ (List.getElem_mem hlt)
   obtain ⟨nd, hnd⟩ : ∃ nd, rd_T95 xs (i : Int) = nd := ⟨_, rfl⟩
   rw [show xs[i] = nd from by rw [← hnd]; show _ = xs.getD (Int.toNat i) _; rw [Int.toNat_natCast, getD_of hlt]] at hlm
   obtain ⟨ad, B1, d1, hA, hx0, hx1, hx2, hx3, hx4, hx5, hd1, hk1⟩ := at_T95 (Kd.C_below HX.out.1 HB.out) (i : Int) (by omega) (by omega)
   obtain ⟨ae, B2, d2, hE, hy0, hy1, hy2, hy3, hy4, hy5, hd2', hk2⟩ := at_T95 (Kd.C_below HX.out.2 HB.out) (i : Int) (by omega) (by omega)
   subst hA hE
   rw [hnd] at hx0 hx1 hx2 hx3 hx4 hx5 hd1 hk1 hy0 hy1 hy2 hy3 hy4 hy5 hd2' hk2
   simp only [Int.toNat_natCast] at hx0 hx1 hx2 hx3 hx4 hx5 hy0 hy1 hy2 hy3 hy4 hy5
   obtain ⟨n0, n1, s, ys, t, n5⟩ := nd
   simp only at hx0 hx1 hx2 hx3 hx4 hx5 hd1 hk1 hy0 hy1 hy2 hy3 hy4 hy5 hd2' hk2 hlm
   have HI2 := am hlt
   have HD := am (And.intro (Below.refl wr.heap.size wr) (Below.refl wr.heap.size wr).drew)
   have HS := am (show ∀ W, Below wr.heap.size wr W → W.cell? (ad.add (i * 6)) = some (.int .i64 n0) ∧ W.cell? ⟨(ad.add (i * 6)).block, (ad.add (i * 6)).off + 1, none⟩ = some (.int .i64 n1) ∧ W.cell? ⟨(ad.add (i * 6)).block, (ad.add (i * 6)).off + 2, none⟩ = some (.string s) ∧ W.cell? ⟨(ad.add (i * 6)).block, (ad.add (i * 6)).off + 3, none⟩ = some (.slice B1 ys.length d1) ∧ W.cell? ⟨(ad.add (i * 6)).block, (ad.add (i * 6)).off + 4, none⟩ = some (.string t) ∧ W.cell? ⟨(ad.add (i * 6)).block, (ad.add (i * 6)).off + 5, none⟩ = some (.int .i64 n5) ∧ W.cell? (ae.add (i * 6)) = some (.int .i64 n0) ∧ W.cell? ⟨(ae.add (i * 6)).block, (ae.add (i * 6)).off + 1, none⟩ = some (.int .i64 n1) ∧ W.cell? ⟨(ae.add (i * 6)).block, (ae.add (i * 6)).off + 2, none⟩ = some (.string s) ∧ W.cell? ⟨(ae.add (i * 6)).block, (ae.add (i * 6)).off + 3, none⟩ = some (.slice B2 ys.length d2) ∧ W.cell? ⟨(ae.add (i * 6)).block, (ae.add (i * 6)).off + 4, none⟩ = some (.string t) ∧ W.cell? ⟨(ae.add (i * 6)).block, (ae.add (i * 6)).off + 5, none⟩ = some (.int .i64 n5) from fun W hW => ⟨pw_cell_below hW hx0, pw_cell_below hW hx1, pw_cell_below hW hx2, pw_cell_below hW hx3, pw_cell_below hW hx4, pw_cell_below hW hx5, pw_cell_below hW hy0, pw_cell_below hW hy1, pw_cell_below hW hy2, pw_cell_below hW hy3, pw_cell_below hW hy4, pw_cell_below hW hy5⟩)
   have HC := am (eqNode_same n0 n1 s t n5 ys hlm wr.drew B1 d1 B2 d2 (Kd.C_below hk1 HD.out.2) hd1 (Kd.C_below hk2 HD.out.2) hd2')
   clear hlt hnd hlm hx0 hx1 hx2 hx3 hx4 hx5 hd1 hk1 hy0 hy1 hy2 hy3 hy4 hy5 hd2' hk2
   go_wp2_with fail
   refine start_ (S := fun W => W.cell? (ad.add (i * 6)) = some (.int .i64 n0) ∧ W.cell? ⟨(ad.add (i * 6)).block, (ad.add (i * 6)).off + 1, none⟩ = some (.int .i64 n1) ∧ W.cell? ⟨(ad.add (i * 6)).block, (ad.add (i * 6)).off + 2, none⟩ = some (.string s) ∧ W.cell? ⟨(ad.add (i * 6)).block, (ad.add (i * 6)).off + 3, none⟩ = some (.slice B1 ys.length d1) ∧ W.cell? ⟨(ad.add (i * 6)).block, (ad.add (i * 6)).off + 4, none⟩ = some (.string t) ∧ W.cell? ⟨(ad.add (i * 6)).block, (ad.add (i * 6)).off + 5, none⟩ = some (.int .i64 n5) ∧ W.cell? (ae.add (i * 6)) = some (.int .i64 n0) ∧ W.cell? ⟨(ae.add (i * 6)).block, (ae.add (i * 6)).off + 1, none⟩ = some (.int .i64 n1) ∧ W.cell? ⟨(ae.add (i * 6)).block, (ae.add (i * 6)).off + 2, none⟩ = some (.string s) ∧ W.cell? ⟨(ae.add (i * 6)).block, (ae.add (i * 6)).off + 3, none⟩ = some (.slice B2 ys.length d2) ∧ W.cell? ⟨(ae.add (i * 6)).block, (ae.add (i * 6)).off + 4, none⟩ = some (.string t) ∧ W.cell? ⟨(ae.add (i * 6)).block, (ae.add (i * 6)).off + 5, none⟩ = some (.int .i64 n5)) (ds := []) _ (by kernel_rfl) rfl rfl (HS.out _ HD.out.2) (fun hHeld => ?_)
   repeat ((first | refine pu 0 17 (v := ?_) (a' := ?_) rfl rfl rfl (by kernel_rfl) (fun _ _ _ h => h) (Or.inl ⟨by rfl, ?_⟩) ?_ ?_ | refine pu 1 18 (v := ?_) (a' := ?_) rfl rfl rfl (by kernel_rfl) (fun _ _ _ h => h) (Or.inl ⟨by rfl, ?_⟩) ?_ ?_ | refine pu 2 19 (v := ?_) (a' := ?_) rfl rfl rfl (by kernel_rfl) (fun _ _ _ h => h) (Or.inl ⟨by rfl, ?_⟩) ?_ ?_ | refine pu 4 21 (v := ?_) (a' := ?_) rfl rfl rfl (by kernel_rfl) (fun _ _ _ h => h) (Or.inl ⟨by rfl, ?_⟩) ?_ ?_ | refine pu 5 22 (v := ?_) (a' := ?_) rfl rfl rfl (by kernel_rfl) (fun _ _ _ h => h) (Or.inl ⟨by rfl, ?_⟩) ?_ ?_ | refine pu 6 23 (v := ?_) (a' := ?_) rfl rfl rfl (by kernel_rfl) (fun _ _ _ h => h) (Or.inl ⟨by rfl, ?_⟩) ?_ ?_); rotate_left; (intro w'; go_simp; with_reducible rfl); rotate_left; (simp only [Act.put, List.setIfInBounds_toArray, List.set_cons_zero, List.set_cons_succ, i64_w, i32_w]; rfl))
   repeat ((first | refine tk 3 20 (v := ?_) (a' := ?_) rfl rfl rfl (by kernel_rfl) (fun _ _ _ h => h) (Or.inl ⟨by rfl, ?_⟩) hHeld ?_ ?_ | refine tk 7 24 (v := ?_) (a' := ?_) rfl rfl rfl (by kernel_rfl) (fun _ _ _ h => h) (Or.inl ⟨by rfl, ?_⟩) hHeld ?_ ?_); rotate_left; (rintro w' ⟨s0, s1, s2, s3, s4, s5, s6, s7, s8, s9, sa, sb⟩; go_simp; with_reducible rfl); rotate_left; (simp only [Act.put, List.setIfInBounds_toArray, List.set_cons_zero, List.set_cons_succ, i64_w, i32_w]; rfl))
   refine on1 8 25 rfl rfl rfl (by kernel_rfl) (by decide) (fun K hK => ?_)
   refine goes_ Tryz.func79 (by kernel_rfl) rfl #[.agg #[.int .i64 n0, .int .i64 n1, .string s, .slice B1 ys.length d1, .string t, .int .i64 n5], .agg #[.int .i64 n0, .int .i64 n1, .string s, .slice B2 ys.length d2, .string t, .int .i64 n5]] (by rfl) rfl rfl (by simp only [List.map_toArray, List.map_cons, List.map_nil]; rfl) ?_
   refine HC.out.mono ?_
   rintro e w2 ⟨rfl, hb2⟩
   have HC2 := am (below_step HD.out.2 hb2)
   refine ⟨_, rfl, hK.out _ _ (HS.out _ HC2.out) (fun hHeld => ?_)⟩
   refine norm_ (a' := ?_) ?_ ?_
   rotate_left
   ·show Act.put _ (some 25) _ = _
    simp only [Act.put, List.setIfInBounds_toArray, List.set_cons_zero, List.set_cons_succ, i64_w, i32_w]
    rfl
   (refine pu 9 26 (v := ?_) (a' := ?_) rfl rfl rfl (by kernel_rfl) (fun _ _ _ h => h) (Or.inl ⟨by rfl, ?_⟩) ?_ ?_; rotate_left; (intro w'; go_simp; with_reducible rfl); rotate_left; (simp only [Act.put, List.setIfInBounds_toArray, List.set_cons_zero, List.set_cons_succ, i64_w, i32_w]; rfl))
   refine done_ (by kernel_rfl) ?_
   go_wp2
   have hii : (i : Int) + 1 = ((i + 1 : Nat) : Int) := by omega
   go_roundg (gk - 1)
   case measure => have := HI.out; omega
   case rel => exact ⟨i + 1, by rw [hii], ⟨by have := HI.out; omega, HI2.out⟩, ⟨below_step HB.out HC2.out⟩⟩
  ·have hd2 : decide (i < xs.length) = false := decide_eq_false hlt
   rw [hd2] at hd
   clear hlt
   go_wp2
   go_ret
   exact ⟨rfl, HB.out⟩
theorem eqTree_same (l : List S95) (hl : Small l) (W : World) (A1 : Option Addr) (c1 : Nat) (A2 : Option Addr) (c2 : Nat) (h1 : Kd.C k95 W A1 l.length l) (hc1 : l.length ≤ c1) (h2 : Kd.C k95 W A2 l.length l) (hc2 : l.length ≤ c2) : Calls Tryz.prog 14 #[.agg #[.slice A1 l.length c1], .agg #[.slice A2 l.length c2]] W (BoolEnd W) := by
 have hut := Tryz.underlying31
 have hb := eqBoxes W (Obj.cells #[.slice A1 l.length c1] 31) (Obj.cells #[.slice A2 l.length c2] 31)
 have HC := am (eqNodeS_same l (by have := hl.n; omega) (fun n hn => by have := hl.a n hn; omega) _ A1 c1 A2 c2 (Kd.C_below h1 hb) hc1 (Kd.C_below h2 hb) hc2)
 have HB := am hb
 clear h1 h2 hb
 go_enter Tryz.func14, Tryz.ntmps14
 go_wp2_with (first | (go_at_call 45; refine HC.out.mono ?_; rintro e w2 ⟨rfl, hb2⟩; have HC2 := am (below_step HB.out hb2); clear hb2) | fail)
 go_ret
 exact ⟨rfl, HC2.out⟩
theorem eqChange_same (D : Chg) (hl : Small D.f7) (W : World) (A1 : Option Addr) (c1 : Nat) (A2 : Option Addr) (c2 : Nat) (h1 : Kd.C k95 W A1 D.f7.length D.f7) (hc1 : D.f7.length ≤ c1) (h2 : Kd.C k95 W A2 D.f7.length D.f7) (hc2 : D.f7.length ≤ c2) : Calls Tryz.prog 15 #[chv D A1 c1, chv D A2 c2] W (BoolEnd W) := by
 have hut := Tryz.underlying33
 have hb := eqBoxes W (mbox8 D A1 c1 33) (mbox8 D A2 c2 33)
 have HC := am (eqNodeS_same D.f7 (by have := hl.n; omega) (fun n hn => by have := hl.a n hn; omega) _ A1 c1 A2 c2 (Kd.C_below h1 hb) hc1 (Kd.C_below h2 hb) hc2)
 have HB := am hb
 clear h1 h2 hb
 go_enter Tryz.func15, Tryz.ntmps15
 go_wp2_with (first | (go_at_call 45; refine HC.out.mono ?_; rintro e w2 ⟨rfl, hb2⟩; have HC2 := am (below_step HB.out hb2); clear hb2) | fail)
 go_ret
 exact ⟨rfl, HC2.out⟩
end Go.Proofs.YthjgohbkpjhkeaaGreatDoor.Impl
