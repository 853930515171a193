/- Part 10 of the proof: DoText, DoSz, DoReg. -/
import Derived.Test.YthjgohbkpjhkeaaGreatDoorA1
import Derived.Test.YthjgohbkpjhkeaaGreatDoorA9
import Derived.BigRegion
import Derived.Test.YthjgohbkpjhkeaaGreatDoorA2
set_option linter.unusedVariables false
set_option linter.unusedSimpArgs false
set_option maxHeartbeats 4000000
set_option maxRecDepth 100000
namespace Go.Proofs.YthjgohbkpjhkeaaGreatDoor.Impl
open Go.RowKit Go.Proofs.YthjgohbkpjhkeaaGreatDoorW.PrintWords Go.Proofs.YthjgohbkpjhkeaaGreatDoorW.PrintLast Go.Proofs.YthjgohbkpjhkeaaGreatDoorW.PrintMore Go.Proofs.YthjgohbkpjhkeaaGreatDoor.PFnExactDo Go.Proofs.YthjgohbkpjhkeaaGreatDoor.MapLib Go.Proofs.YthjgohbkpjhkeaaGreatDoor.FireSpec Go.Proofs.YthjgohbkpjhkeaaGreatDoor.Tr Go.Proofs.YthjgohbkpjhkeaaGreatDoor.Fo
def withText (n : S95) (s : ByteArray) : S95 := ⟨n.f0, n.f1, n.f2, n.f3, s, n.f5⟩
def Only (w w' : World) (b : Nat) (cs : Array Value) (t : TypeId) : Prop := w.heap.size ≤ w'.heap.size ∧ (∀ k, k < w.heap.size → k ≠ b → w'.heap[k]? = w.heap[k]?) ∧ w'.heap[b]? = some (.cells cs t (0, 0)) ∧ ∀ B, B ≤ b → B ≤ w.heap.size → Below B w w'
abbrev mbox8 (C : Chg) (A : Option Addr) (c : Nat) (t : TypeId) : Obj := .cells #[.int .i64 C.f0, .int .i64 C.f1, .int .i64 C.f2, .int .i64 C.f3, .string C.f4, .string C.f5, .int .i64 C.f6, .slice A C.f7.length c] t
theorem cells8t {W : World} {b : Nat} {C : Chg} {A : Option Addr} {c : Nat} {t : TypeId} (h : W.heap[b]? = some (mbox8 C A c t)) : W.cell? ⟨b, 0, none⟩ = some (.int .i64 C.f0) ∧ W.cell? ⟨b, 1, none⟩ = some (.int .i64 C.f1) ∧ W.cell? ⟨b, 2, none⟩ = some (.int .i64 C.f2) ∧ W.cell? ⟨b, 3, none⟩ = some (.int .i64 C.f3) ∧ W.cell? ⟨b, 4, none⟩ = some (.string C.f4) ∧ W.cell? ⟨b, 5, none⟩ = some (.string C.f5) ∧ W.cell? ⟨b, 6, none⟩ = some (.int .i64 C.f6) ∧ W.cell? ⟨b, 7, none⟩ = some (.slice A C.f7.length c) :=
 ⟨blk_cell h 0, blk_cell h 1, blk_cell h 2, blk_cell h 3, blk_cell h 4, blk_cell h 5, blk_cell h 6, blk_cell h 7⟩
theorem set8 {w w' : World} {b : Nat} {C0 C : Chg} {A0 A : Option Addr} {c0 c : Nat} {t : TypeId} (h : w.heap[b]? = some (mbox8 C0 A0 c0 t)) (hw : w' = ((((((((w.setCell ⟨b, 0, none⟩ (.int .i64 C.f0)).setCell ⟨b, 1, none⟩ (.int .i64 C.f1)).setCell ⟨b, 2, none⟩ (.int .i64 C.f2)).setCell ⟨b, 3, none⟩ (.int .i64 C.f3)).setCell ⟨b, 4, none⟩ (.string C.f4)).setCell ⟨b, 5, none⟩ (.string C.f5)).setCell ⟨b, 6, none⟩ (.int .i64 C.f6)).setCell ⟨b, 7, none⟩ (.slice A C.f7.length c))) :
  w'.heap[b]? = some (mbox8 C A c t) ∧ (∀ k, k ≠ b → w'.heap[k]? = w.heap[k]?) ∧ w'.heap.size = w.heap.size ∧ ∀ B w0, Below B w0 w → B ≤ b → Below B w0 w' := by
 subst hw
 obtain ⟨a1, b1, c1, d1⟩ := set_block (j := 0) (v := .int .i64 C.f0) rfl h
 simp only [List.setIfInBounds_toArray, List.set_cons_succ, List.set_cons_zero] at a1
 obtain ⟨a2, b2, c2, d2⟩ := set_block (j := 1) (v := .int .i64 C.f1) rfl a1
 simp only [List.setIfInBounds_toArray, List.set_cons_succ, List.set_cons_zero] at a2
 obtain ⟨a3, b3, c3, d3⟩ := set_block (j := 2) (v := .int .i64 C.f2) rfl a2
 simp only [List.setIfInBounds_toArray, List.set_cons_succ, List.set_cons_zero] at a3
 obtain ⟨a4, b4, c4, d4⟩ := set_block (j := 3) (v := .int .i64 C.f3) rfl a3
 simp only [List.setIfInBounds_toArray, List.set_cons_succ, List.set_cons_zero] at a4
 obtain ⟨a5, b5, c5, d5⟩ := set_block (j := 4) (v := .string C.f4) rfl a4
 simp only [List.setIfInBounds_toArray, List.set_cons_succ, List.set_cons_zero] at a5
 obtain ⟨a6, b6, c6, d6⟩ := set_block (j := 5) (v := .string C.f5) rfl a5
 simp only [List.setIfInBounds_toArray, List.set_cons_succ, List.set_cons_zero] at a6
 obtain ⟨a7, b7, c7, d7⟩ := set_block (j := 6) (v := .int .i64 C.f6) rfl a6
 simp only [List.setIfInBounds_toArray, List.set_cons_succ, List.set_cons_zero] at a7
 obtain ⟨a8, b8, c8, d8⟩ := set_block (j := 7) (v := .slice A C.f7.length c) rfl a7
 simp only [List.setIfInBounds_toArray, List.set_cons_succ, List.set_cons_zero] at a8
 exact ⟨a8, fun k hk => by rw [b8 k hk, b7 k hk, b6 k hk, b5 k hk, b4 k hk, b3 k hk, b2 k hk, b1 k hk], by rw [c8, c7, c6, c5, c4, c3, c2, c1], fun B w0 hB hb => d8 _ _ (d7 _ _ (d6 _ _ (d5 _ _ (d4 _ _ (d3 _ _ (d2 _ _ (d1 _ _ hB hb) hb) hb) hb) hb) hb) hb) hb⟩
theorem text_do (w : World) (g : Nat) (ns : List S95) (bs : List Nat) (C : Chg) (A : Option Addr) (c : Nat) (hg : GMap w g ns bs) (hl : bs.length = ns.length) (hd : (ns.map (·.f0)).Nodup) (j : Nat) (hp : place ns C.f1 = some j) (n : S95) (A1 : Option Addr) (c1 : Nat) (kv1 up1 : Value) (pl1 : Int) (ht : TwigB w (bs.getD j 0) n A1 c1 kv1 up1 pl1) :
  Calls Tryz.prog 181 #[chv C A c, .pointer (some ⟨g, 0, none⟩)] w fun e w' => e = .returned (chv ⟨6, C.f1, 0, 0, ⟨#[]⟩, n.f4, 0, []⟩ none 0) ∧ Only w w' (bs.getD j 0) (twigCells (withText n C.f5) A1 c1 kv1 up1 pl1) 99 := by
 have hut := Tryz.underlying33
 have HL := am (And.intro hl hd)
 have HG := am hg
 have HLK := am (show lkv ns bs C.f1 = .pointer (some ⟨bs.getD j 0, 0, none⟩) by unfold lkv; rw [hp]; rfl)
 have HTW := am ht
 obtain ⟨bj, hbj⟩ : ∃ bj, bj = bs.getD j 0 := ⟨_, rfl⟩
 rw [← hbj] at HTW HLK ⊢
 clear hg hl hd hp ht hbj
 go_enter Tryz.func181, Tryz.ntmps181
 go_wp2_with fail
 generalize hw1 : World.alloc _ _ = w1
 have h1 : Below w.heap.size w w1 ∧ w1.heap[w.heap.size]? = some (mbox8 C A c 164) ∧ w1.heap[w.heap.size + 1]? = some (mbox8 ⟨0, 0, 0, 0, ⟨#[]⟩, ⟨#[]⟩, 0, []⟩ none 0 33) ∧ w1.heap.size = w.heap.size + 2 := by
  subst hw1
  refine ⟨((Below.refl _ w).alloc (Nat.le_refl _) _).alloc (by simp) _, blk_below (blk_newest w _) ((Below.refl _ _).alloc (Nat.le_refl _) _), ?_, by simp⟩
  have := blk_newest (w.alloc (mbox8 C A c 164)) (mbox8 ⟨0, 0, 0, 0, ⟨#[]⟩, ⟨#[]⟩, 0, []⟩ none 0 33)
  exact (congrArg (fun k => ((w.alloc (mbox8 C A c 164)).alloc (mbox8 ⟨0, 0, 0, 0, ⟨#[]⟩, ⟨#[]⟩, 0, []⟩ none 0 33)).heap[k]?) (by simp : (w.alloc (mbox8 C A c 164)).heap.size = w.heap.size + 1)).symm.trans this
 have H1 := am h1
 obtain ⟨x0, x1, x2, x3, x4, x5, x6, x7⟩ := cells8t h1.2.1
 obtain ⟨mb, _, hm, hq⟩ := (HG.out.below h1.1).look HL.out HLK.out
 clear h1 hw1
 go_quiet (fail)
 obtain ⟨w2, hw2⟩ : ∃ w2, w2 = w1.drewN nq := ⟨_, rfl⟩
 have H2 := am (show Below w.heap.size w w2 ∧ w2.heap = w1.heap from ⟨hw2 ▸ pw_below_drewN H1.out.1 _, hw2 ▸ rfl⟩)
 rw [← hw2]
 clear x0 x1 x2 x3 x4 x5 x6 x7 hm hq hw2
 obtain ⟨x0, x1, x2, x3, x4, x5, x6, x7⟩ := cells8t (W := w2) (b := w.heap.size) (by rw [H2.out.2]; exact H1.out.2.1)
 have ht4 : w2.cell? ⟨bj, 4, none⟩ = some (.string n.f4) := blk_cell (blk_below HTW.out H2.out.1) 4
 go_wp2_with fail
 have hz4 : (w2.alloc (.cells #[.int .i64 0, .int .i64 0, .int .i64 0, .int .i64 0, .string ⟨#[]⟩, .string ⟨#[]⟩, .int .i64 0, .slice none 0 0] 33)).cell? ⟨bj, 4, none⟩ = some (.string n.f4) := (pw_cell_below ((Below.refl _ w2).alloc (Nat.le_refl _) _) ht4)
 have hz1 : (w2.alloc (.cells #[.int .i64 0, .int .i64 0, .int .i64 0, .int .i64 0, .string ⟨#[]⟩, .string ⟨#[]⟩, .int .i64 0, .slice none 0 0] 33)).cell? ⟨w.heap.size, 1, none⟩ = some (.int .i64 C.f1) := (pw_cell_below ((Below.refl _ w2).alloc (Nat.le_refl _) _) x1)
 go_region
 generalize hw3 : World.drew (World.alloc _ _) = w3
 have h3 : Below w2.heap.size w2 w3 ∧ w3.heap[w2.heap.size]? = some (mbox8 ⟨6, C.f1, 0, 0, ⟨#[]⟩, n.f4, 0, []⟩ none 0 33) := by
  subst hw3
  exact ⟨((Below.refl _ w2).alloc (Nat.le_refl _) _).drew, blk_newest w2 (mbox8 ⟨6, C.f1, 0, 0, ⟨#[]⟩, n.f4, 0, []⟩ none 0 33)⟩
 obtain ⟨bc, hbc⟩ : ∃ bc, bc = w2.heap.size := ⟨_, rfl⟩
 have hbl := blk_lt HTW.out
 have hsz : w.heap.size + 2 ≤ w2.heap.size := by rw [H2.out.2, H1.out.2.2.2]; exact Nat.le_refl _
 have H3 := am (show Below w.heap.size w w3 ∧ w3.heap[w.heap.size + 1]? = some (mbox8 ⟨0, 0, 0, 0, ⟨#[]⟩, ⟨#[]⟩, 0, []⟩ none 0 33) ∧ w3.heap[bc]? = some (mbox8 ⟨6, C.f1, 0, 0, ⟨#[]⟩, n.f4, 0, []⟩ none 0 33) ∧ TwigB w3 bj n A1 c1 kv1 up1 pl1 ∧ bj < w.heap.size ∧ w.heap.size + 2 ≤ bc from
  ⟨below_step H2.out.1 h3.1, blk_below (by rw [H2.out.2]; exact H1.out.2.2.1) h3.1, hbc ▸ h3.2, blk_below (blk_below HTW.out H2.out.1) h3.1, hbl, hbc ▸ hsz⟩)
 have hx5 : w3.cell? ⟨w.heap.size, 5, none⟩ = some (.string C.f5) := pw_cell_below h3.1 x5
 have ht4 : w3.cell? ⟨bj, 4, none⟩ = some (.string n.f4) := blk_cell H3.out.2.2.2.1 4
 have htf := blk_frozen H3.out.2.2.2.1 4
 rw [← hbc]
 clear x0 x1 x2 x3 x4 x5 x6 x7 hz1 hz4 hw3 h3 hbl hsz hbc
 go_wp2_with (first | ((with_reducible refine gate_store (t := 9) (p := 30) rfl ?_); refine store_event (t := 9) (p := 30) (v := ?vo) (w1 := w3.setCell ⟨bj, 4, none⟩ (.string C.f5)) ?hg ?ho ?hn ?hr ?_; (case ho => rfl); (case hg => rfl); (case hn => rfl); (case hr => first | (go_simp; done) | (go_simp; rfl)); intro w4 hw4; have H4 := am (set_block hw4 H3.out.2.2.2.1); have HS4 := am hw4; clear hw4; obtain ⟨y0, y1, y2, y3, y4, y5, y6, y7⟩ := cells8t ((H4.out.2.1 bc (by have := H3.out; omega)).trans H3.out.2.2.1); have HR4 := am ((H4.out.2.1 (w.heap.size + 1) (by have := H3.out; omega)).trans H3.out.2.1); obtain ⟨z0, z1, z2, z3, z4, z5, z6, z7⟩ := cells8t HR4.out; have hzf := fun k => blk_frozen HR4.out k; clear ht4 htf hx5))
 generalize hw5 : World.setCell _ _ _ = w5
 have h5 := set8 (C := ⟨6, C.f1, 0, 0, ⟨#[]⟩, n.f4, 0, []⟩) (A := none) (c := 0) HR4.out hw5.symm
 clear hw5 y0 y1 y2 y3 y4 y5 y6 y7 z0 z1 z2 z3 z4 z5 z6 z7 hzf
 obtain ⟨z0, z1, z2, z3, z4, z5, z6, z7⟩ := cells8t h5.1
 refine bodyPost_ret (v := chv ⟨6, C.f1, 0, 0, ⟨#[]⟩, n.f4, 0, []⟩ none 0) (by simp [results, Tryz.results181, go_sem, z0, z1, z2, z3, z4, z5, z6, z7, hut]) rfl ⟨rfl, ?_⟩
 have H := H3.out
 refine ⟨by rw [h5.2.2.1, H4.out.2.2.1]; exact H.1.size, fun k hk hkb => ?_, ?_, fun B hB hB2 => ?_⟩
 ·rw [h5.2.1 k (by omega), H4.out.2.1 k hkb]
  exact H.1.block k hk
 ·exact (h5.2.1 bj (by omega)).trans H4.out.1
 ·exact h5.2.2.2 _ _ (H4.out.2.2.2 _ _ (H.1.mono hB2) hB) (by omega)
end Go.Proofs.YthjgohbkpjhkeaaGreatDoor.Impl
set_option maxHeartbeats 4000000
set_option maxRecDepth 100000
namespace Go.Proofs.YthjgohbkpjhkeaaGreatDoor.Impl
open Go.RowKit Go.Proofs.YthjgohbkpjhkeaaGreatDoorW.PrintWords Go.Proofs.YthjgohbkpjhkeaaGreatDoorW.PrintLast Go.Proofs.YthjgohbkpjhkeaaGreatDoorW.PrintMore Go.Proofs.YthjgohbkpjhkeaaGreatDoor.PFnExactDo Go.Proofs.YthjgohbkpjhkeaaGreatDoor.MapLib Go.Proofs.YthjgohbkpjhkeaaGreatDoor.FireSpec Go.Proofs.YthjgohbkpjhkeaaGreatDoor.Tr
def IntIs (w : World) (b : Int) (e : Ending) (w' : World) : Prop := e = .returned (.int .i64 b) ∧ Below w.heap.size w w'
def sub1 (a : Int) (n : Nat) : Int := if a - n < 0 then -1 else a - n
def sA (x : S189) (a : Int) : Int := if a - x.f0.size < 0 then -1 else sub1 (a - x.f0.size) x.f1.size
theorem w64s {a : Int} {n : Nat} (h0 : 0 ≤ a) (h1 : a ≤ 1048576) (hn : n ≤ 9223372036854775807) : IntKind.i64.wrap (a - (n : Int)) = a - n := by rw [i64_w]; exact w64 (by omega) (by omega)
theorem szAttr_calls (x : S189) (h0 : x.f0.size ≤ 9223372036854775807) (h1 : x.f1.size ≤ 9223372036854775807) (a : Int) (ha : 0 ≤ a) (hb : a ≤ 1048576) (w : World) : Calls Tryz.prog 117 #[.agg #[.string x.f0, .string x.f1], .int .i64 a] w (IntIs w (sA x a)) := by
 have hut := Tryz.underlying189
 have HB := am ((Below.refl w.heap.size w).alloc (Nat.le_refl _) (Obj.cells #[.string x.f0, .string x.f1] 189))
 obtain ⟨y, hy⟩ : ∃ y, a - (x.f0.size : Int) = y := ⟨_, rfl⟩
 have q1 := (w64s ha hb h0).trans hy
 have q3 := q1
 rw [i64_w] at q3
 by_cases c1 : y < 0
 ·have d1 := decide_eq_true c1
  have HR := am (show sA x a = -1 from by unfold sA; rw [hy, if_pos c1])
  clear c1 hy
  go_enter Tryz.func117, Tryz.ntmps117
  go_wp2
  go_ret
  rw [HR.out]
  exact ⟨rfl, HB.out⟩
 ·have d1 := decide_eq_false c1
  obtain ⟨z, hz⟩ : ∃ z, y - (x.f1.size : Int) = z := ⟨_, rfl⟩
  have q2 := (w64s (a := y) (n := x.f1.size) (by omega) (by omega) h1).trans hz
  have q4 := q2
  rw [i64_w] at q4
  have HR := am (show sA x a = if z < 0 then -1 else z from by unfold sA sub1; rw [hy, if_neg c1, hz])
  clear c1 hy hz
  by_cases c2 : z < 0
  ·have d2 := decide_eq_true c2
   rw [if_pos c2] at HR
   clear c2
   go_enter Tryz.func117, Tryz.ntmps117
   go_wp2
   go_ret
   rw [HR.out]
   exact ⟨rfl, HB.out⟩
  ·have d2 := decide_eq_false c2
   rw [if_neg c2] at HR
   clear c2
   go_enter Tryz.func117, Tryz.ntmps117
   go_wp2
   go_ret
   rw [HR.out]
   exact ⟨rfl, HB.out⟩
def sAs : List S189 → Int → Int
 | [], a => a
 | x :: xs, a => if sA x a < 0 then -1 else sAs xs (sA x a)
def szA (xs : List S189) (a : Int) : Int := if a - (xs.length : Int) < 0 then -1 else sAs xs (a - (xs.length : Int))
theorem sub1_le {a : Int} (n : Nat) (h : ¬ sub1 a n < 0) : 0 ≤ sub1 a n ∧ sub1 a n ≤ a := by
 unfold sub1 at h ⊢
 split at h
 ·omega
 ·rename_i c
  rw [if_neg c]
  omega
theorem sA_le {x : S189} {a : Int} (h : ¬ sA x a < 0) : 0 ≤ sA x a ∧ sA x a ≤ a := by
 unfold sA at h ⊢
 split at h
 ·omega
 ·rename_i c
  rw [if_neg c]
  have := sub1_le _ h
  omega
theorem szAttrS_calls (xs : List S189) (hx : ∀ x ∈ xs, x.f0.size ≤ 9223372036854775807 ∧ x.f1.size ≤ 9223372036854775807) (hn : xs.length ≤ 9223372036854775807) (a : Int) (h0 : 0 ≤ a) (h1 : a ≤ 1048576) (A : Option Addr) (c : Nat) (w : World) (hr : Kd.C k189 w A xs.length xs) (hc : xs.length ≤ c) :
  Calls Tryz.prog 95 #[.slice A xs.length c, .int .i64 a] w (IntIs w (szA xs a)) := by
 have HX := am (And.intro hr hx)
 clear hr hx
 obtain ⟨y, hy⟩ : ∃ y, a - (xs.length : Int) = y := ⟨_, rfl⟩
 have q1 := (w64s h0 h1 hn).trans hy
 have q3 := q1
 rw [i64_w] at q3
 by_cases c1 : y < 0
 ·have d1 := decide_eq_true c1
  have HR := am (show szA xs a = -1 from by unfold szA; rw [hy, if_pos c1])
  clear c1 hy
  go_enter Tryz.func95, Tryz.ntmps95
  go_wp2
  go_ret
  rw [HR.out]
  exact ⟨rfl, Below.refl _ _⟩
 ·have d1 := decide_eq_false c1
  have HR := am (show szA xs a = sAs xs y from by unfold szA; rw [hy, if_neg c1])
  rw [HR.out]
  have HY := am (show 0 ≤ y ∧ y ≤ a ∧ (xs.length : Int) ≤ a from by omega)
  clear c1 hy HR
  go_enter Tryz.func95, Tryz.ntmps95
  go_wp2
  go_loopg [1, 5] (xs.length + 1) (fun kq v1 v5 wr => ∃ (i : Nat) (m : Int), v1 = .int .i64 m ∧ v5 = .int .i64 i ∧ Aside0 (i + kq = xs.length + 1 ∧ i ≤ xs.length ∧ 0 ≤ m ∧ m ≤ 1048576 ∧ sAs (xs.drop i) m = sAs xs y) ∧ Aside0 (Below w.heap.size w wr))
  case atStart => exact ⟨0, y, rfl, rfl, ⟨by omega, by omega, HY.out.1, by have := HY.out; omega, rfl⟩, ⟨Below.refl _ _⟩⟩
  case round =>
   obtain ⟨i, m, rfl, rfl, HI, HB⟩ := hrel
   have hd : decide ((i : Int) < (xs.length : Int)) = decide (i < xs.length) := by simp
   by_cases hlt : i < xs.length
   ·have hd2 : decide (i < xs.length) = true := decide_eq_true hlt
    rw [hd2] at hd
    have hib : (i : Int) ≤ 1048576 := by have := HY.out; omega
    have e3 := eq_true (show (0 : Int) ≤ (i : Int) from by omega)
    have e4 := eq_true (show (i : Int) < xs.length from by omega)
    obtain ⟨ad, hA, hx0, hx1⟩ := at_T189 (Kd.C_below HX.out.1 HB.out) (i : Int) (by omega) (by omega)
    subst hA
    have hxi := HX.out.2 _ (List.getElem_mem hlt)
    have hdr := HI.out.2.2.2.2
    rw [List.drop_eq_getElem_cons hlt] at hdr
    rw [show rd_T189 xs (i : Int) = xs[i] from by simp [rd_T189, hlt]] at hx0 hx1
    simp only [Int.toNat_natCast] at hx0 hx1
    generalize xs[i] = x at hx0 hx1 hxi hdr
    have HC := am (szAttr_calls x hxi.1 hxi.2 m HI.out.2.2.1 HI.out.2.2.2.1 wr)
    have HI2 := am hlt
    obtain ⟨z, hz⟩ : ∃ z, sA x m = z := ⟨_, rfl⟩
    rw [hz] at HC
    have HZ := am (show 0 ≤ i + 1 ∧ (¬ z < 0 → 0 ≤ z ∧ z ≤ m) from ⟨by omega, fun h => by rw [← hz]; exact sA_le (by rw [hz]; exact h)⟩)
    change (if sA x m < 0 then -1 else sAs (xs.drop (i + 1)) (sA x m)) = sAs xs y at hdr
    rw [hz] at hdr
    clear hlt hz hxi
    by_cases c2 : z < 0
    ·rw [if_pos c2] at hdr
     have d2 := decide_eq_true c2
     have HR := am hdr
     clear c2 hdr
     go_wp2_with (first | (go_at_call 117; refine HC.out.mono ?_; rintro e w2 ⟨rfl, hb2⟩; have HC2 := am (below_step HB.out hb2); clear hb2) | fail)
     go_ret
     rw [← HR.out]
     exact ⟨rfl, HC2.out⟩
    ·rw [if_neg c2] at hdr
     have d2 := decide_eq_false c2
     have HR := am (And.intro hdr (HZ.out.2 c2))
     clear c2 hdr
     go_wp2_with (first | (go_at_call 117; refine HC.out.mono ?_; rintro e w2 ⟨rfl, hb2⟩; have HC2 := am (below_step HB.out hb2); clear hb2) | fail)
     have hii : (i : Int) + 1 = ((i + 1 : Nat) : Int) := by omega
     go_roundg (gk - 1)
     case measure => have := HI.out; omega
     case rel => exact ⟨i + 1, z, rfl, by rw [hii], ⟨by have := HI.out; omega, HI2.out, HR.out.2.1, by have h1 := HR.out.2; have h2 := HI.out; omega, HR.out.1⟩, ⟨HC2.out⟩⟩
   ·have hd2 : decide (i < xs.length) = false := decide_eq_false hlt
    rw [hd2] at hd
    have HE := am (show m = sAs xs y from by have h := HI.out.2.2.2.2; rw [List.drop_eq_nil_of_le (by omega)] at h; exact h)
    clear hlt
    go_wp2
    go_ret
    rw [← HE.out]
    exact ⟨rfl, HB.out⟩
theorem sAs_le : ∀ (xs : List S189) (a : Int), 0 ≤ a → ¬ sAs xs a < 0 → 0 ≤ sAs xs a ∧ sAs xs a ≤ a
 | [], a, h0, _ => ⟨h0, Int.le_refl _⟩
 | x :: xs, a, h0, h => by
  unfold sAs at h ⊢
  split at h
  ·omega
  ·rename_i c
   rw [if_neg c]
   have h1 := sA_le c
   have h2 := sAs_le xs _ h1.1 h
   omega
theorem szA_le {xs : List S189} {a : Int} (h : ¬ szA xs a < 0) : 0 ≤ szA xs a ∧ szA xs a ≤ a ∧ (xs.length : Int) ≤ a := by
 unfold szA at h ⊢
 split at h
 ·omega
 ·rename_i c
  rw [if_neg c]
  have := sAs_le xs _ (by omega) h
  omega
def sN (x : S108) (a : Int) : Int := if a - x.f2.size < 0 then -1 else if szA x.f3 (a - x.f2.size) < 0 then -1 else sub1 (szA x.f3 (a - x.f2.size)) x.f4.size
def fitN (x : S108) : Prop := x.f2.size ≤ 9223372036854775807 ∧ x.f4.size ≤ 9223372036854775807 ∧ x.f3.length ≤ 9223372036854775807 ∧ ∀ a ∈ x.f3, a.f0.size ≤ 9223372036854775807 ∧ a.f1.size ≤ 9223372036854775807
theorem szNode_calls (x : S108) (hx : fitN x) (a : Int) (h0 : 0 ≤ a) (h1 : a ≤ 1048576) (A : Option Addr) (c : Nat) (w : World) (hr : Kd.C k189 w A x.f3.length x.f3) (hc : x.f3.length ≤ c) :
  Calls Tryz.prog 64 #[.agg #[.int .i64 x.f0, .int .i64 x.f1, .string x.f2, .slice A x.f3.length c, .string x.f4, .int .i64 x.f5], .int .i64 a] w (IntIs w (sN x a)) := by
 have hut := Tryz.underlying108
 have HB := am ((Below.refl w.heap.size w).alloc (Nat.le_refl _) (Obj.cells #[.int .i64 x.f0, .int .i64 x.f1, .string x.f2, .slice A x.f3.length c, .string x.f4, .int .i64 x.f5] 108))
 have HW := am (blk_newest w (Obj.cells #[.int .i64 x.f0, .int .i64 x.f1, .string x.f2, .slice A x.f3.length c, .string x.f4, .int .i64 x.f5] 108))
 obtain ⟨y, hy⟩ : ∃ y, a - (x.f2.size : Int) = y := ⟨_, rfl⟩
 have q1 := (w64s h0 h1 hx.1).trans hy
 have q3 := q1
 rw [i64_w] at q3
 by_cases c1 : y < 0
 ·have d1 := decide_eq_true c1
  have HR := am (show sN x a = -1 from by unfold sN; rw [hy, if_pos c1])
  clear c1 hy hr hc hx
  go_enter Tryz.func64, Tryz.ntmps64
  go_wp2
  go_ret
  rw [HR.out]
  exact ⟨rfl, HB.out⟩
 ·have d1 := decide_eq_false c1
  have HC := am (szAttrS_calls x.f3 hx.2.2.2 hx.2.2.1 y (by omega) (by omega) A c _ (Kd.C_below hr HB.out) hc)
  obtain ⟨z, hz⟩ : ∃ z, szA x.f3 y = z := ⟨_, rfl⟩
  rw [hz] at HC
  have HR := am (show sN x a = if z < 0 then -1 else sub1 z x.f4.size from by unfold sN; rw [hy, if_neg c1, hz])
  have hzb : ¬ z < 0 → 0 ≤ z ∧ z ≤ 1048576 := fun h => by have := szA_le (xs := x.f3) (a := y) (by rw [hz]; exact h); rw [hz] at this; omega
  clear c1 hy hz hr hc
  by_cases c2 : z < 0
  ·have d2 := decide_eq_true c2
   rw [if_pos c2] at HR
   clear c2 hx hzb
   go_enter Tryz.func64, Tryz.ntmps64
   go_wp2_with (first | (go_at_call 95; refine HC.out.mono ?_; rintro e w2 ⟨rfl, hb2⟩; have HC2 := am (below_step HB.out hb2); clear hb2) | fail)
   go_ret
   rw [HR.out]
   exact ⟨rfl, HC2.out⟩
  ·have d2 := decide_eq_false c2
   have q2 := w64s (hzb c2).1 (hzb c2).2 hx.2.1
   obtain ⟨u, hu⟩ : ∃ u, z - (x.f4.size : Int) = u := ⟨_, rfl⟩
   replace q2 := q2.trans hu
   have q4 := q2
   rw [i64_w] at q4
   have HS := am (show sN x a = if u < 0 then -1 else u from by rw [HR.out, if_neg c2]; unfold sub1; rw [hu])
   clear c2 hx hzb hu
   cases c3 : decide (u < 0)
   ·have HT := am (show sN x a = u from by rw [HS.out, if_neg (of_decide_eq_false c3)])
    go_enter Tryz.func64, Tryz.ntmps64
    go_wp2_with (first | (go_at_call 95; refine HC.out.mono ?_; rintro e w2 ⟨rfl, hb2⟩; have HC2 := am (below_step HB.out hb2); have x4 := blk_cell (blk_below HW.out hb2) 4; clear hb2) | fail)
    go_ret
    rw [HT.out]
    exact ⟨rfl, HC2.out⟩
   ·have HT := am (show sN x a = -1 from by rw [HS.out, if_pos (of_decide_eq_true c3)])
    go_enter Tryz.func64, Tryz.ntmps64
    go_wp2_with (first | (go_at_call 95; refine HC.out.mono ?_; rintro e w2 ⟨rfl, hb2⟩; have HC2 := am (below_step HB.out hb2); have x4 := blk_cell (blk_below HW.out hb2) 4; clear hb2) | fail)
    go_ret
    rw [HT.out]
    exact ⟨rfl, HC2.out⟩
def sNs : List S108 → Int → Int
 | [], a => a
 | x :: xs, a => if sN x a < 0 then -1 else sNs xs (sN x a)
def szN (xs : List S108) (a : Int) : Int := if a - (xs.length : Int) < 0 then -1 else sNs xs (a - (xs.length : Int))
theorem sN_le {x : S108} {a : Int} (h : ¬ sN x a < 0) : 0 ≤ sN x a ∧ sN x a ≤ a ∧ (x.f3.length : Int) ≤ a := by
 unfold sN at h ⊢
 split at h
 ·omega
 ·rename_i c
  rw [if_neg c]
  split at h
  ·omega
  ·rename_i c2
   rw [if_neg c2]
   have h1 := szA_le c2
   have h2 := sub1_le _ h
   omega
theorem szNodeS_calls (xs : List S108) (hx : ∀ x ∈ xs, fitN x) (hn : xs.length ≤ 9223372036854775807) (a : Int) (h0 : 0 ≤ a) (h1 : a ≤ 1048576) (A : Option Addr) (c : Nat) (w : World) (hr : Kd.C k108 w A xs.length xs) (hc : xs.length ≤ c) :
  Calls Tryz.prog 39 #[.slice A xs.length c, .int .i64 a] w (IntIs w (szN xs a)) := by
 have HX := am (And.intro hr hx)
 clear hr hx
 obtain ⟨y, hy⟩ : ∃ y, a - (xs.length : Int) = y := ⟨_, rfl⟩
 have q1 := (w64s h0 h1 hn).trans hy
 have q3 := q1
 rw [i64_w] at q3
 by_cases c1 : y < 0
 ·have d1 := decide_eq_true c1
  have HR := am (show szN xs a = -1 from by unfold szN; rw [hy, if_pos c1])
  clear c1 hy
  go_enter Tryz.func39, Tryz.ntmps39
  go_wp2
  go_ret
  rw [HR.out]
  exact ⟨rfl, Below.refl _ _⟩
 ·have d1 := decide_eq_false c1
  have HR := am (show szN xs a = sNs xs y from by unfold szN; rw [hy, if_neg c1])
  rw [HR.out]
  have HY := am (show 0 ≤ y ∧ y ≤ a ∧ (xs.length : Int) ≤ a from by omega)
  clear c1 hy HR
  go_enter Tryz.func39, Tryz.ntmps39
  go_wp2
  go_loopg [1, 5] (xs.length + 1) (fun kq v1 v5 wr => ∃ (i : Nat) (m : Int), v1 = .int .i64 m ∧ v5 = .int .i64 i ∧ Aside0 (i + kq = xs.length + 1 ∧ i ≤ xs.length ∧ 0 ≤ m ∧ m ≤ 1048576 ∧ sNs (xs.drop i) m = sNs xs y) ∧ Aside0 (Below w.heap.size w wr))
  case atStart => exact ⟨0, y, rfl, rfl, ⟨by omega, by omega, HY.out.1, by have := HY.out; omega, rfl⟩, ⟨Below.refl _ _⟩⟩
  case round =>
   obtain ⟨i, m, rfl, rfl, HI, HB⟩ := hrel
   have hd : decide ((i : Int) < (xs.length : Int)) = decide (i < xs.length) := by simp
   by_cases hlt : i < xs.length
   ·have hd2 : decide (i < xs.length) = true := decide_eq_true hlt
    rw [hd2] at hd
    have hib : (i : Int) ≤ 1048576 := by have := HY.out; omega
    have e3 := eq_true (show (0 : Int) ≤ (i : Int) from by omega)
    have e4 := eq_true (show (i : Int) < xs.length from by omega)
    obtain ⟨ad, A3, c3, hA, hx0, hx1, hx2, hx3, hx4, hx5, hl3, hi3⟩ := at_T108 (Kd.C_below HX.out.1 HB.out) (i : Int) (by omega) (by omega)
    subst hA
    have hxi := HX.out.2 _ (List.getElem_mem hlt)
    have hdr := HI.out.2.2.2.2
    rw [List.drop_eq_getElem_cons hlt] at hdr
    rw [show rd_T108 xs (i : Int) = xs[i] from by simp [rd_T108, hlt]] at hx0 hx1 hx2 hx3 hx4 hx5 hl3 hi3
    simp only [Int.toNat_natCast] at hx0 hx1 hx2 hx3 hx4 hx5
    generalize xs[i] = x at hx0 hx1 hx2 hx3 hx4 hx5 hl3 hi3 hxi hdr
    have HC := am (szNode_calls x hxi m HI.out.2.2.1 HI.out.2.2.2.1 A3 c3 wr hi3 hl3)
    have HI2 := am hlt
    obtain ⟨z, hz⟩ : ∃ z, sN x m = z := ⟨_, rfl⟩
    rw [hz] at HC
    have HZ := am (show 0 ≤ i + 1 ∧ (¬ z < 0 → 0 ≤ z ∧ z ≤ m) from ⟨by omega, fun h => by rw [← hz]; exact ⟨(sN_le (by rw [hz]; exact h)).1, (sN_le (by rw [hz]; exact h)).2.1⟩⟩)
    change (if sN x m < 0 then -1 else sNs (xs.drop (i + 1)) (sN x m)) = sNs xs y at hdr
    rw [hz] at hdr
    clear hlt hz hxi hl3 hi3
    by_cases c2 : z < 0
    ·rw [if_pos c2] at hdr
     have d2 := decide_eq_true c2
     have HR := am hdr
     clear c2 hdr
     go_wp2_with (first | (go_at_call 64; refine HC.out.mono ?_; rintro e w2 ⟨rfl, hb2⟩; have HC2 := am (below_step HB.out hb2); clear hb2) | fail)
     go_ret
     rw [← HR.out]
     exact ⟨rfl, HC2.out⟩
    ·rw [if_neg c2] at hdr
     have d2 := decide_eq_false c2
     have HR := am (And.intro hdr (HZ.out.2 c2))
     clear c2 hdr
     go_wp2_with (first | (go_at_call 64; refine HC.out.mono ?_; rintro e w2 ⟨rfl, hb2⟩; have HC2 := am (below_step HB.out hb2); clear hb2) | fail)
     have hii : (i : Int) + 1 = ((i + 1 : Nat) : Int) := by omega
     go_roundg (gk - 1)
     case measure => have := HI.out; omega
     case rel => exact ⟨i + 1, z, rfl, by rw [hii], ⟨by have := HI.out; omega, HI2.out, HR.out.2.1, by have h1 := HR.out.2; have h2 := HI.out; omega, HR.out.1⟩, ⟨HC2.out⟩⟩
   ·have hd2 : decide (i < xs.length) = false := decide_eq_false hlt
    rw [hd2] at hd
    have HE := am (show m = sNs xs y from by have h := HI.out.2.2.2.2; rw [List.drop_eq_nil_of_le (by omega)] at h; exact h)
    clear hlt
    go_wp2
    go_ret
    rw [← HE.out]
    exact ⟨rfl, HB.out⟩
theorem sNs_le : ∀ (xs : List S108) (a : Int), 0 ≤ a → ¬ sNs xs a < 0 → 0 ≤ sNs xs a ∧ sNs xs a ≤ a ∧ ∀ n ∈ xs, (n.f3.length : Int) ≤ a
 | [], a, h0, _ => ⟨h0, Int.le_refl _, by simp⟩
 | x :: xs, a, h0, h => by
  unfold sNs at h ⊢
  split at h
  ·omega
  ·rename_i c
   rw [if_neg c]
   have h1 := sN_le c
   have h2 := sNs_le xs _ h1.1 h
   refine ⟨by omega, by omega, fun n hn => ?_⟩
   rcases List.mem_cons.1 hn with rfl | hn
   ·exact h1.2.2
   ·have := h2.2.2 n hn
    omega
theorem szN_le {xs : List S108} {a : Int} (h : ¬ szN xs a < 0) : 0 ≤ szN xs a ∧ szN xs a ≤ a ∧ (xs.length : Int) ≤ a ∧ ∀ n ∈ xs, (n.f3.length : Int) ≤ a := by
 unfold szN at h ⊢
 split at h
 ·omega
 ·rename_i c
  rw [if_neg c]
  have := sNs_le xs _ (by omega) h
  refine ⟨by omega, by omega, by omega, fun n hn => ?_⟩
  have := this.2.2 n hn
  omega
def szT (xs : List S108) (a : Int) : Int := if szN xs a < 0 then -1 else szN xs a
def szC (s t : ByteArray) (xs : List S108) (a : Int) : Int := if a - s.size < 0 then -1 else if a - s.size - t.size < 0 then -1 else szT xs (a - s.size - t.size)
theorem szTree_calls (xs : List S108) (hx : ∀ x ∈ xs, fitN x) (hn : xs.length ≤ 9223372036854775807) (a : Int) (h0 : 0 ≤ a) (h1 : a ≤ 1048576) (A : Option Addr) (c : Nat) (w : World) (hr : Kd.C k108 w A xs.length xs) (hc : xs.length ≤ c) :
  Calls Tryz.prog 8 #[.agg #[.slice A xs.length c], .int .i64 a] w (IntIs w (szT xs a)) := by
 have hut := Tryz.underlying24
 have HB := am ((Below.refl w.heap.size w).alloc (Nat.le_refl _) (Obj.cells #[.slice A xs.length c] 24))
 have HC := am (szNodeS_calls xs hx hn a h0 h1 A c _ (Kd.C_below hr HB.out) hc)
 obtain ⟨z, hz⟩ : ∃ z, szN xs a = z := ⟨_, rfl⟩
 rw [hz] at HC
 have HS := am (show szT xs a = if z < 0 then -1 else z from by unfold szT; rw [hz])
 clear hz hr hc hx
 cases d1 : decide (z < 0)
 ·have HR := am (HS.out.trans (if_neg (of_decide_eq_false d1)))
  go_enter Tryz.func8, Tryz.ntmps8
  go_wp2_with (first | (go_at_call 39; refine HC.out.mono ?_; rintro e w2 ⟨rfl, hb2⟩; have HC2 := am (below_step HB.out hb2); clear hb2) | fail)
  go_ret
  rw [HR.out]
  exact ⟨rfl, HC2.out⟩
 ·have HR := am (HS.out.trans (if_pos (of_decide_eq_true d1)))
  go_enter Tryz.func8, Tryz.ntmps8
  go_wp2_with (first | (go_at_call 39; refine HC.out.mono ?_; rintro e w2 ⟨rfl, hb2⟩; have HC2 := am (below_step HB.out hb2); clear hb2) | fail)
  go_ret
  rw [HR.out]
  exact ⟨rfl, HC2.out⟩
theorem szChange_calls (f0 f1 f2 f3 : Int) (s t : ByteArray) (f6 : Int) (xs : List S108) (hs : s.size ≤ 9223372036854775807) (ht : t.size ≤ 9223372036854775807) (hx : ∀ x ∈ xs, fitN x) (hn : xs.length ≤ 9223372036854775807) (a : Int) (h0 : 0 ≤ a) (h1 : a ≤ 1048576) (A : Option Addr) (c : Nat) (w : World) (hr : Kd.C k108 w A xs.length xs) (hc : xs.length ≤ c) :
  Calls Tryz.prog 9 #[.agg #[.int .i64 f0, .int .i64 f1, .int .i64 f2, .int .i64 f3, .string s, .string t, .int .i64 f6, .slice A xs.length c], .int .i64 a] w (IntIs w (szC s t xs a)) := by
 have hut := Tryz.underlying26
 have HB := am ((Below.refl w.heap.size w).alloc (Nat.le_refl _) (Obj.cells #[.int .i64 f0, .int .i64 f1, .int .i64 f2, .int .i64 f3, .string s, .string t, .int .i64 f6, .slice A xs.length c] 26))
 obtain ⟨y, hy⟩ : ∃ y, a - (s.size : Int) = y := ⟨_, rfl⟩
 have q1 := (w64s h0 h1 hs).trans hy
 have q3 := q1
 rw [i64_w] at q3
 by_cases c1 : y < 0
 ·have d1 := decide_eq_true c1
  have HR := am (show szC s t xs a = -1 from by unfold szC; rw [hy, if_pos c1])
  clear c1 hy hr hc hx
  go_enter Tryz.func9, Tryz.ntmps9
  go_wp2
  go_ret
  rw [HR.out]
  exact ⟨rfl, HB.out⟩
 have d1 := decide_eq_false c1
 obtain ⟨u, hu⟩ : ∃ u, y - (t.size : Int) = u := ⟨_, rfl⟩
 have q2 := (w64s (a := y) (by omega) (by omega) ht).trans hu
 have q4 := q2
 rw [i64_w] at q4
 by_cases c2 : u < 0
 ·have d2 := decide_eq_true c2
  have HR := am (show szC s t xs a = -1 from by unfold szC; rw [hy, if_neg c1, hu, if_pos c2])
  clear c1 c2 hy hu hr hc hx
  go_enter Tryz.func9, Tryz.ntmps9
  go_wp2
  go_ret
  rw [HR.out]
  exact ⟨rfl, HB.out⟩
 have d2 := decide_eq_false c2
 have HC := am (szNodeS_calls xs hx hn u (by omega) (by omega) A c _ (Kd.C_below hr HB.out) hc)
 obtain ⟨z, hz⟩ : ∃ z, szN xs u = z := ⟨_, rfl⟩
 rw [hz] at HC
 have HS := am (show szC s t xs a = if z < 0 then -1 else z from by unfold szC szT; rw [hy, if_neg c1, hu, if_neg c2, hz])
 clear hz hr hc hx c1 c2 hy hu
 cases d3 : decide (z < 0)
 ·have HR := am (HS.out.trans (if_neg (of_decide_eq_false d3)))
  go_enter Tryz.func9, Tryz.ntmps9
  go_wp2_with (first | (go_at_call 39; refine HC.out.mono ?_; rintro e w2 ⟨rfl, hb2⟩; have HC2 := am (below_step HB.out hb2); clear hb2) | fail)
  go_ret
  rw [HR.out]
  exact ⟨rfl, HC2.out⟩
 ·have HR := am (HS.out.trans (if_pos (of_decide_eq_true d3)))
  go_enter Tryz.func9, Tryz.ntmps9
  go_wp2_with (first | (go_at_call 39; refine HC.out.mono ?_; rintro e w2 ⟨rfl, hb2⟩; have HC2 := am (below_step HB.out hb2); clear hb2) | fail)
  go_ret
  rw [HR.out]
  exact ⟨rfl, HC2.out⟩
def LeftN (xs : List S108) (a r : Int) : Prop := r = -1 ∨ (0 ≤ r ∧ r ≤ a ∧ (xs.length : Int) ≤ a ∧ ∀ n ∈ xs, (n.f3.length : Int) ≤ a)
theorem szT_left (xs : List S108) (a : Int) : LeftN xs a (szT xs a) := by
 unfold szT
 split
 ·exact .inl rfl
 ·exact .inr (szN_le ‹_›)
theorem szC_left (s t : ByteArray) (xs : List S108) (a : Int) : LeftN xs a (szC s t xs a) := by
 unfold szC
 split
 ·exact .inl rfl
 ·split
  ·exact .inl rfl
  ·rcases szT_left xs (a - s.size - t.size) with h | ⟨h1, h2, h3, h4⟩
   ·exact .inl h
   ·exact .inr ⟨h1, by omega, by omega, fun n hn => by have := h4 n hn; omega⟩
end Go.Proofs.YthjgohbkpjhkeaaGreatDoor.Impl
namespace Go.Proofs.YthjgohbkpjhkeaaGreatDoor.Impl
open Go.RowKit Go.Proofs.YthjgohbkpjhkeaaGreatDoor.MapLib Go.Proofs.YthjgohbkpjhkeaaGreatDoorW.PrintWords Go.Proofs.YthjgohbkpjhkeaaGreatDoorW.PrintLast Go.Proofs.YthjgohbkpjhkeaaGreatDoorW.PrintMore Go.Proofs.YthjgohbkpjhkeaaGreatDoor.PFnExactDo
section
variable {P : Program} {md : Region.Mode} {ops : Array Oper} {S : World → Prop} {ds : List Nat} {Q : Exit → Act → World → Prop}
theorem pu (i n : Nat) {oi : Oper} {v : Value} {fuel : Nat} {l : Array Bool} {a : Act} {w : World} (hl : l[i]? = some false) (hi : ops[i]? = some oi) (hN : oi.dst = some n) (hc : anyB md ops l (l.setIfInBounds i true) i = true)
  (hQ : ∀ c a w, Q (.panic c) (a.put oi.dst v) w → Q (.panic c) a w) (hy : Yields P ops oi v a) {a' : Act} (ha : a.put (some n) v = a')
  (h : wpAnyLast P md ops Q S ds fuel (l.setIfInBounds i true) a' w) : wpAnyLast P md ops Q S ds (fuel + 1) l a w := pure_ (l.setIfInBounds i true) hi hN hc hQ hy ha h
theorem tk (i n : Nat) {oi : Oper} {v : Value} {fuel : Nat} {l : Array Bool} {a : Act} {w : World} (hl : l[i]? = some false) (hi : ops[i]? = some oi) (hN : oi.dst = some n) (hc : takeB md ops ds l (l.setIfInBounds i true) i = true)
  (hQ : ∀ c a w, Q (.panic c) (a.put oi.dst v) w → Q (.panic c) a w) (hy : YieldsIf P ops S oi v a) (hS : S w) {a' : Act} (ha : a.put (some n) v = a')
  (h : wpAnyLast P md ops Q S ds fuel (l.setIfInBounds i true) a' w) : wpAnyLast P md ops Q S ds (fuel + 1) l a w := take_ (l.setIfInBounds i true) hi hN hc hQ hy hS ha h
theorem on1 (i n : Nat) {oi : Oper} {fuel : Nat} {l : Array Bool} {a : Act} {w : World} (hl : l[i]? = some false) (hi : ops[i]? = some oi) (hN : oi.dst = some n) (hc : readyB md ops l (l.setIfInBounds i true) i = true) (hd : i ∉ ds)
  (h : ∀ K : Act → World → Prop, Shut (∀ a' w', S w' → (S w' → wpAnyLast P md ops Q S ds fuel (l.setIfInBounds i true) a' w') → K a' w') → if Region.wanted oi (yielded ops a.tmps) = true then Oper.wp P oi a w K Q else K (a.put (some n) undef) w) :
  wpAnyLast P md ops Q S ds (fuel + 1) l a w := one_ (l.setIfInBounds i true) hi hN hc hd h
theorem on2 (i j n m : Nat) {oi oj : Oper} {fuel : Nat} {l : Array Bool} {a : Act} {w : World} (hl : (l[i]?, l[j]?) = (some false, some false)) (hi : ops[i]? = some oi) (hj : ops[j]? = some oj) (hNi : oi.dst = some n) (hNj : oj.dst = some m)
  (hc : (Region.ready md ops l == [i, j] && l.setIfInBounds i true == l.setIfInBounds i true && l.setIfInBounds j true == l.setIfInBounds j true) = true) (hdi : i ∉ ds) (hdj : j ∉ ds)
  (h1 : ∀ K : Act → World → Prop, Shut (∀ a' w', S w' → (S w' → wpAnyLast P md ops Q S ds fuel (l.setIfInBounds i true) a' w') → K a' w') → if Region.wanted oi (yielded ops a.tmps) = true then Oper.wp P oi a w K Q else K (a.put (some n) undef) w)
  (h2 : ∀ K : Act → World → Prop, Shut (∀ a' w', S w' → (S w' → wpAnyLast P md ops Q S ds fuel (l.setIfInBounds j true) a' w') → K a' w') → if Region.wanted oj (yielded ops a.tmps) = true then Oper.wp P oj a w K Q else K (a.put (some m) undef) w) :
  wpAnyLast P md ops Q S ds (fuel + 1) l a w := two_ (l.setIfInBounds i true) (l.setIfInBounds j true) hi hj hNi hNj hc hdi hdj h1 h2
theorem on3 (i j k n m o : Nat) {oi oj ok : Oper} {fuel : Nat} {l : Array Bool} {a : Act} {w : World} (hl : (l[i]?, l[j]?, l[k]?) = (some false, some false, some false)) (hi : ops[i]? = some oi) (hj : ops[j]? = some oj) (hk : ops[k]? = some ok) (hNi : oi.dst = some n) (hNj : oj.dst = some m) (hNk : ok.dst = some o)
  (hc : (Region.ready md ops l == [i, j, k] && l.setIfInBounds i true == l.setIfInBounds i true && l.setIfInBounds j true == l.setIfInBounds j true && l.setIfInBounds k true == l.setIfInBounds k true) = true) (hdi : i ∉ ds) (hdj : j ∉ ds) (hdk : k ∉ ds)
  (h1 : ∀ K : Act → World → Prop, Shut (∀ a' w', S w' → (S w' → wpAnyLast P md ops Q S ds fuel (l.setIfInBounds i true) a' w') → K a' w') → if Region.wanted oi (yielded ops a.tmps) = true then Oper.wp P oi a w K Q else K (a.put (some n) undef) w)
  (h2 : ∀ K : Act → World → Prop, Shut (∀ a' w', S w' → (S w' → wpAnyLast P md ops Q S ds fuel (l.setIfInBounds j true) a' w') → K a' w') → if Region.wanted oj (yielded ops a.tmps) = true then Oper.wp P oj a w K Q else K (a.put (some m) undef) w)
  (h3 : ∀ K : Act → World → Prop, Shut (∀ a' w', S w' → (S w' → wpAnyLast P md ops Q S ds fuel (l.setIfInBounds k true) a' w') → K a' w') → if Region.wanted ok (yielded ops a.tmps) = true then Oper.wp P ok a w K Q else K (a.put (some o) undef) w) :
  wpAnyLast P md ops Q S ds (fuel + 1) l a w := three_ (l.setIfInBounds i true) (l.setIfInBounds j true) (l.setIfInBounds k true) hi hj hk hNi hNj hNk hc hdi hdj hdk h1 h2 h3
theorem joins_ {σ : Type} {fuel : Nat} {l : Array Bool} {a : Act} {w : World} (fu : Nat → Bool → Bool → Nat) (bt : Nat → Bool → Bool → Array Bool) (ns : Nat → Bool → Bool → σ → List (Tmp × Value)) (F : Nat → Bool → Bool → σ → World → Prop)
  (hfin : ∀ s W, F 3 true true s W → wpAnyLast P md ops Q S ds (fu 3 true true) (bt 3 true true) (putAll a (ns 3 true true s)) W)
  (hstep : ∀ k x y, (k ≤ 3 ∧ ¬ (k = 3 ∧ x = true ∧ y = true)) → (∀ k' x' y' s W, k' ≤ 3 → k + x.toNat + y.toNat < k' + x'.toNat + y'.toNat → F k' x' y' s W → wpAnyLast P md ops Q S ds (fu k' x' y') (bt k' x' y') (putAll a (ns k' x' y' s)) W) → ∀ s W, F k x y s W → wpAnyLast P md ops Q S ds (fu k x y) (bt k x y) (putAll a (ns k x y s)) W)
  (h0 : (∀ k x y s W, k ≤ 3 → F k x y s W → wpAnyLast P md ops Q S ds (fu k x y) (bt k x y) (putAll a (ns k x y s)) W) → wpAnyLast P md ops Q S ds fuel l a w) : wpAnyLast P md ops Q S ds fuel l a w := by
 refine h0 ?_
 have key : ∀ n k x y, k ≤ 3 → 5 ≤ n + (k + x.toNat + y.toNat) → ∀ s W, F k x y s W → wpAnyLast P md ops Q S ds (fu k x y) (bt k x y) (putAll a (ns k x y s)) W := by
  intro n
  induction n with
  | zero =>
   intro k x y hk hn s W h
   have hx := Bool.toNat_le x
   have hy := Bool.toNat_le y
   obtain rfl : k = 3 := by omega
   obtain rfl : x = true := by cases x with | true => rfl | false => simp at hn; omega
   obtain rfl : y = true := by cases y with | true => rfl | false => simp at hn
   exact hfin s W h
  | succ n ih =>
   intro k x y hk hn s W h
   by_cases hf : k = 3 ∧ x = true ∧ y = true
   ·obtain ⟨rfl, rfl, rfl⟩ := hf
    exact hfin s W h
   ·exact hstep k x y ⟨hk, hf⟩ (fun k' x' y' s W hk' hlt hF => ih k' x' y' hk' (by omega) s W hF) s W h
 exact fun k x y s W hk h => key 5 k x y hk (by omega) s W h
end
structure B2 (w W : World) (x y : Obj) : Prop where
 b : Below w.heap.size w W
 x : W.heap[w.heap.size]? = some x
 y : W.heap[w.heap.size + 1]? = some y
theorem B2.two {w : World} {x y : Obj} : B2 w ((w.alloc x).alloc y) x y := ⟨((Below.refl _ _).alloc (Nat.le_refl _) _).alloc (by simp) _, blk_below (blk_newest w _) ((Below.refl _ _).alloc (Nat.le_refl _) _), (congrArg (fun k => ((w.alloc x).alloc y).heap[k]?) (by simp : (w.alloc x).heap.size = w.heap.size + 1)).symm.trans (blk_newest (w.alloc x) y)⟩
theorem B2.below {w W W' : World} {x y : Obj} (h : B2 w W x y) (hb : Below W.heap.size W W') : B2 w W' x y := ⟨below_step h.b hb, blk_below h.x hb, blk_below h.y hb⟩
end Go.Proofs.YthjgohbkpjhkeaaGreatDoor.Impl
