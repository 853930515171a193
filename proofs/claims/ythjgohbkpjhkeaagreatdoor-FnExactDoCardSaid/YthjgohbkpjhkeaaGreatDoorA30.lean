/- Part 30 of the proof: DoChAny, DoImpl, DoTreeOk. -/
import Derived.Test.YthjgohbkpjhkeaaGreatDoorA23
import Derived.Test.YthjgohbkpjhkeaaGreatDoorA1
import Derived.Deep.RegionHeld3
import Derived.Test.YthjgohbkpjhkeaaGreatDoorA26
import Derived.Test.YthjgohbkpjhkeaaGreatDoorA3
import Derived.BigRegion
set_option linter.unusedVariables false
set_option linter.unusedSimpArgs false
namespace Go.Proofs.YthjgohbkpjhkeaaGreatDoor.Impl
open Go.RowKit Go.Proofs.YthjgohbkpjhkeaaGreatDoorW.PrintWords Go.Proofs.YthjgohbkpjhkeaaGreatDoorW.PrintLast Go.Proofs.YthjgohbkpjhkeaaGreatDoorW.PrintMore Go.Proofs.YthjgohbkpjhkeaaGreatDoor.PFnExactDo Go.Proofs.YthjgohbkpjhkeaaGreatDoor.MapLib Go.Proofs.YthjgohbkpjhkeaaGreatDoor.FireSpec Go.Proofs.YthjgohbkpjhkeaaGreatDoor.Tr Go.Proofs.YthjgohbkpjhkeaaGreatDoor.Fo
theorem modify_mem {α : Type} {f : α → α} {n : α} : ∀ {l : List α} {P : Nat}, n ∈ l.modify P f → n ∈ l ∨ ∃ a ∈ l, n = f a
 | [], P, h => by simp at h
 | a :: l, 0, h => by
  rcases List.mem_cons.1 (by simpa using h) with rfl | h
  ·exact .inr ⟨a, by simp, rfl⟩
  ·exact .inl (by simp [h])
 | a :: l, P + 1, h => by
  rcases List.mem_cons.1 (by simpa using h) with rfl | h
  ·exact .inl (by simp)
  ·rcases modify_mem h with h | ⟨b, h1, h2⟩
   ·exact .inl (by simp [h])
   ·exact .inr ⟨b, by simp [h1], h2⟩
section
variable {ns what : List S95} {P j e k p : Nat} {n n' : S95} {B : Nat} {C : Chg}
theorem set_wf (h : ∀ n ∈ ns, n.f5 ≤ 4000) (h' : n'.f5 ≤ 4000) : ∀ n ∈ ns.set j n', n.f5 ≤ 4000 := fun n hn => by
 rcases List.mem_or_eq_of_mem_set hn with h1 | rfl
 ·exact h n h1
 ·exact h'
theorem cut_wf (h : ∀ n ∈ ns, n.f5 ≤ 4000) : ∀ n ∈ cutN ns P j e, n.f5 ≤ 4000 := fun n hn => by
 unfold cutN at hn
 rcases List.mem_append.1 hn with h1 | h1
 ·rcases modify_mem (List.mem_of_mem_take h1) with h2 | ⟨a, h2, rfl⟩
  ·exact h n h2
  ·have := h a h2
   show ((kid a - 1 : Nat) : Int) ≤ 4000
   unfold kid
   omega
 ·exact h n (List.mem_of_mem_drop h1)
theorem put_wf (h : ∀ n ∈ ns, n.f5 ≤ 4000) (h2 : ∀ n ∈ what, n.f5 ≤ 9223372036854775807) : ∀ n ∈ putN ns p k what, n.f5 ≤ 9223372036854775807 := fun n hn => by
 unfold putN at hn
 rcases List.mem_append.1 hn with h1 | h1
 ·rcases modify_mem (List.mem_of_mem_take h1) with h3 | ⟨a, h3, rfl⟩
  ·have := h n h3; omega
  ·have := h a h3
   show ((kid a + 1 : Nat) : Int) ≤ 9223372036854775807
   unfold kid
   omega
 ·rcases List.mem_append.1 h1 with h1 | h1
  ·exact h2 n h1
  ·have := h n (List.mem_of_mem_drop h1); omega
theorem cut_len : (cutN ns P j e).length ≤ ns.length + ns.length := by unfold cutN; simp; omega
theorem put_len : (putN ns p k what).length ≤ ns.length + what.length + ns.length := by unfold putN; simp; omega
theorem getD_wf (h : ∀ n ∈ ns, n.f5 ≤ 4000) : (ns.getD j z95).f5 ≤ 4000 := by
 rw [List.getD_eq_getElem?_getD]
 cases hj : ns[j]? with
 | none => show (z95).f5 ≤ 4000; decide
 | some n => exact h n (List.mem_of_getElem? hj)
theorem out_wf (h : ∀ n ∈ ns, n.f5 ≤ 4000) (hl : ns.length ≤ 4000) (hc : C.f7.length ≤ 1100000) (hcw : ∀ n ∈ C.f7, n.f5 ≤ 9223372036854775807) : (actOut ns C).2.length ≤ 1000000000 ∧ ∀ n ∈ (actOut ns C).2, n.f5 ≤ 9223372036854775807 := by
 have up : ∀ l : List S95, (∀ n ∈ l, n.f5 ≤ 4000) → ∀ n ∈ l, n.f5 ≤ 9223372036854775807 := fun l h n hn => by have := h n hn; omega
 unfold actOut
 split
 ·exact ⟨Nat.le_trans put_len (by omega), put_wf h hcw⟩
 split
 ·exact ⟨Nat.le_trans cut_len (by omega), up _ (cut_wf h)⟩
 split
 ·have e : ((ns.take (endOf ns (atOf ns C))).drop (atOf ns C)).length ≤ ns.length := by simp; omega
  have e2 : (cutOf ns (atOf ns C)).length ≤ ns.length + ns.length := cut_len
  exact ⟨Nat.le_trans put_len (by omega), put_wf (cut_wf h) (up _ (fun n hn => h n (List.mem_of_mem_take (List.mem_of_mem_drop hn))))⟩
 split
 ·unfold outA
  simp only
  split
  ·exact ⟨by simp; omega, up _ (set_wf h (getD_wf h))⟩
  ·exact ⟨by simp; omega, up _ (set_wf h (getD_wf h))⟩
 split
 ·exact ⟨by simp [outD]; omega, up _ (set_wf h (getD_wf h))⟩
 ·exact ⟨by simp [outT]; omega, up _ (set_wf h (getD_wf h))⟩
end
def doRes (ns : List S95) (C : Chg) : List S95 × Chg × Int :=
 if treeOk ns = true then
  match actCode ns C with
  | some k => ([], zC, k)
  | none => if treeOk (actOut ns C).2 = true then ((actOut ns C).2, (actOut ns C).1, 0) else ([], zC, 4)
 else ([], zC, 1)
def ErrIs (W : World) (ev : Value) (code : Int) : Prop := ∀ W', Below W.heap.size W W' → Err.ErrVar W' → Calls Tryz.prog 44 #[ev] W' fun e w' => e = .returned (.int .i64 code) ∧ Below W'.heap.size W' w'
def ChEnd (w : World) (L : List S95) (R : Chg) (code : Int) (e : Ending) (w' : World) : Prop :=
 Below w.heap.size w w' ∧ ∃ A1 c1 A2 c2 M ev, e = .returned (.tuple #[.agg #[.slice A1 L.length c1], chv R A2 c2, ev]) ∧ Kd.S k95 95 w' w.heap.size (fun b => M ≤ b) (.slice A1 L.length c1) L ∧ Kd.S k95 95 w' w.heap.size (fun b => b < M) (.slice A2 R.f7.length c2) R.f7 ∧ ErrIs w' ev code
theorem CodeEnd.end_ {w w' : World} {k : Int} {e : Ending} (h : CodeEnd w k e w') : ChEnd w [] zC k e w' := by
 obtain ⟨hb, f, r, he, h1, h2⟩ := h
 refine ⟨hb, none, 0, none, 0, 0, _, he, Kd.S_nil _ _ _ _ _, Kd.S_nil _ _ _ _ _, fun W' hW hv => ?_⟩
 exact Err.code_failed f r k W' hv ((hW.cell (World.block_lt_of_cell? _ _ h1)).trans h1) ((hW.cell (World.block_lt_of_cell? _ _ h2)).trans h2)
theorem change_any (ns : List S95) (A : Option Addr) (c : Nat) (C : Chg) (A' : Option Addr) (c' : Nat) (w : World) (hC : Kd.C k95 w A ns.length ns) (hc : ns.length ≤ c) (hwf : ∀ n ∈ ns, n.f5 ≤ 9223372036854775807) (hn : ∀ n ∈ ns, n.f3.length < 1000000000) (hin : ChIn w C A') :
  Calls Tryz.prog 43 #[.agg #[.slice A ns.length c], chv C A' c'] w (ChEnd w (doRes ns C).1 (doRes ns C).2.1 (doRes ns C).2.2) := by
 unfold doRes
 by_cases hok : treeOk ns = true
 ·rw [if_pos hok]
  obtain ⟨h1, h2, h3, h4, h5⟩ := treeOk_parts hok
  obtain ⟨kl, kd, m1, m2, m3, m4, m5, m6⟩ := act_pick ns C A' c' w hin
  cases hk : actCode ns C with
  | some k =>
   rw [hk] at m5
   exact (change_code _ kl ns A c C A' c' w hC hc hwf hok hn rfl (m1 _) m2 k m5).mono (fun e w' h => h.end_)
  | none =>
   rw [hk] at m5
   obtain ⟨o1, o2⟩ := out_wf (fun n hn => by have := h5 n hn; omega) h2 hin.hn (fun n hn => (hin.hwf n hn).1)
   simp only
   by_cases hl : treeOk (actOut ns C).2 = true
   ·rw [if_pos hl]
    refine (change_done _ kl ns A c C A' c' w hC hc hwf hok hn rfl (m1 _) m2 kd (m3 _) m4 (actOut ns C).1 (actOut ns C).2 o1 o2 m5 (m6 hk) hl).mono (fun e w' h => ?_)
    obtain ⟨hb, A1, c1, A2, c2, M, he, e1, e2⟩ := h
    exact ⟨hb, A1, c1, A2, c2, M, _, he, e1, e2, fun W' hW hv => Err.code_nil W'⟩
   ·rw [if_neg hl]
    exact (change_four _ kl ns A c C A' c' w hC hc hwf hok hn rfl (m1 _) m2 kd (m3 _) m4 (actOut ns C).1 (actOut ns C).2 o1 o2 m5 (m6 hk) (by simpa using hl)).mono (fun e w' h => h.end_)
 ·rw [if_neg hok]
  refine (change_refused ns A c C A' c' w hC hc hwf (by simpa using hok)).mono (fun e w' h => ?_)
  obtain ⟨hb, r, he, h2⟩ := h
  refine ⟨hb, none, 0, none, 0, 0, _, he, Kd.S_nil _ _ _ _ _, Kd.S_nil _ _ _ _ _, fun W' hW hv => ?_⟩
  exact Err.code_refused r 1 W' hv ((hW.cell (World.block_lt_of_cell? _ _ h2)).trans h2)
end Go.Proofs.YthjgohbkpjhkeaaGreatDoor.Impl
set_option maxHeartbeats 4000000
set_option maxRecDepth 100000
namespace Go.Proofs.YthjgohbkpjhkeaaGreatDoor.Impl
open Go.RowKit Go.Proofs.YthjgohbkpjhkeaaGreatDoorW.PrintWords Go.Proofs.YthjgohbkpjhkeaaGreatDoorW.PrintLast Go.Proofs.YthjgohbkpjhkeaaGreatDoorW.PrintMore Go.Proofs.YthjgohbkpjhkeaaGreatDoor.PFnExactDo Go.Proofs.YthjgohbkpjhkeaaGreatDoor.MapLib Go.Proofs.YthjgohbkpjhkeaaGreatDoor.FireSpec Go.Proofs.YthjgohbkpjhkeaaGreatDoor.Tr Go.Proofs.YthjgohbkpjhkeaaGreatDoor.Fo
def DoesEnd (w : World) (L : List S95) (R : Chg) (code : Int) (e : Ending) (w' : World) : Prop :=
 Below w.heap.size w w' ∧ ∃ A1 c1 A2 c2 M, e = .returned (.tuple #[.agg #[.slice A1 L.length c1], chv R A2 c2, .int .i64 code]) ∧ Kd.S k95 95 w' w.heap.size (fun b => M ≤ b) (.slice A1 L.length c1) L ∧ Kd.S k95 95 w' w.heap.size (fun b => b < M) (.slice A2 R.f7.length c2) R.f7
theorem does (ns : List S95) (A : Option Addr) (c : Nat) (C : Chg) (A' : Option Addr) (c' : Nat) (w : World) (hv : Err.ErrVar w) (L : List S95) (R : Chg) (code : Int) (h : ∀ W, Below w.heap.size w W → Calls Tryz.prog 43 #[.agg #[.slice A ns.length c], chv C A' c'] W (ChEnd W L R code)) :
  Calls Tryz.prog 13 #[.agg #[.slice A ns.length c], chv C A' c'] w (DoesEnd w L R code) := by
 have hut := Tryz.underlying33
 have hutr := Tryz.underlying31
 have HCH := am h
 have HV := am hv
 clear h hv
 go_enter Tryz.func13, Tryz.ntmps13
 go_wp2_with fail
 generalize hw1 : World.alloc (World.alloc (World.alloc (World.alloc w _) _) _) _ = w1
 have H1 := am (hw1 ▸ box_four w ns.length A c C A' c')
 clear hw1
 refine (HCH.out _ H1.out.1).mono ?_
 rintro e w2 ⟨hb2, A1, c1, A2, c2, M, ev, rfl, hs1, hs2, her⟩
 have H2 := am (And.intro hb2 (And.intro hs1 (And.intro hs2 her)))
 clear hb2 hs1 hs2 her
 go_wp2_with fail
 generalize hw3 : World.alloc (World.alloc w2 _) _ = w3
 have H3 := am (show Below w2.heap.size w2 w3 ∧ w3.heap[w2.heap.size]? = some (boxT L.length A1 c1) ∧ w3.heap[w2.heap.size + 1]? = some (mbox8 R A2 c2 33) ∧ w3.heap.size = w2.heap.size + 2 from by
  have hn := blk_newest (w2.alloc (boxT L.length A1 c1)) (mbox8 R A2 c2 33)
  rw [show (w2.alloc (boxT L.length A1 c1)).heap.size = w2.heap.size + 1 by simp] at hn
  subst hw3
  exact ⟨((Below.refl _ w2).alloc (Nat.le_refl _) _).alloc (by simp) _, blk_below (blk_newest w2 _) ((Below.refl _ _).alloc (Nat.le_refl _) _), hn, by simp⟩)
 clear hw3
 have HB13 := am (below_step H2.out.1 H3.out.1)
 have HY := am (blk_below H1.out.2.2.2.1 HB13.out)
 have HZ := am (blk_below H1.out.2.2.2.2.1 HB13.out)
 have HSZ := am (show w1.heap.size = w.heap.size + 4 ∧ w1.heap.size ≤ w2.heap.size ∧ w3.heap.size = w2.heap.size + 2 from ⟨H1.out.2.2.2.2.2, H2.out.1.size, H3.out.2.2.2⟩)
 have t0 := blk_cell H3.out.2.1 0
 obtain ⟨x0, x1, x2, x3, x4, x5, x6, x7⟩ := cells8t H3.out.2.2.1
 have HCO := am (show ∀ W, Below w3.heap.size w3 W → Calls Tryz.prog 44 #[ev] W fun e w' => e = .returned (.int .i64 code) ∧ Below W.heap.size W w' from fun W hW => H2.out.2.2.2 W (below_step H3.out.1 hW) (by
  have h1 := below_step (below_step H1.out.1 HB13.out) hW
  exact (h1.cell (World.block_lt_of_cell? w _ HV.out)).trans HV.out))
 have HD3 := am (And.intro (Below.refl w3.heap.size w3) (Below.refl w3.heap.size w3).drew)
 go_cut [6] (fun v6 wc => v6 = .int .i64 code ∧ Aside0 (∃ w4, Below w3.heap.size w3 w4 ∧ FD w4 wc (w.heap.size + 1 + 1) (w.heap.size + 1 + 1 + 1) L.length A1 c1 R A2 c2))
 case first =>
  go_region_held3 (fun W => W.cell? ⟨w2.heap.size, 0, none⟩ = some (.slice A1 L.length c1) ∧ W.cell? ⟨w2.heap.size + 1, 0, none⟩ = some (.int .i64 R.f0) ∧ W.cell? ⟨w2.heap.size + 1, 1, none⟩ = some (.int .i64 R.f1) ∧ W.cell? ⟨w2.heap.size + 1, 2, none⟩ = some (.int .i64 R.f2) ∧ W.cell? ⟨w2.heap.size + 1, 3, none⟩ = some (.int .i64 R.f3) ∧ W.cell? ⟨w2.heap.size + 1, 4, none⟩ = some (.string R.f4) ∧ W.cell? ⟨w2.heap.size + 1, 5, none⟩ = some (.string R.f5) ∧ W.cell? ⟨w2.heap.size + 1, 6, none⟩ = some (.int .i64 R.f6) ∧ W.cell? ⟨w2.heap.size + 1, 7, none⟩ = some (.slice A2 R.f7.length c2)) (first | (with_reducible exact ⟨t0, x0, x1, x2, x3, x4, x5, x6, x7⟩) | (with_reducible exact ⟨q0, a0, a1, a2, a3, a4, a5, a6, a7⟩) | (with_reducible exact ⟨r0, b0, b1, b2, b3, b4, b5, b6, b7⟩) | (with_reducible exact ⟨s0, c0, c1', c2', c3, c4, c5, c6, c7⟩) | go_keep) (first | (go_at_call 44; refine (HCO.out _ (by with_reducible first | exact HD3.out.1 | exact HD3.out.2)).mono ?_; rintro e w4 ⟨rfl, hb4⟩; have H4 := am (show Below w3.heap.size w3 w4 from (by with_reducible first | exact hb4 | exact below_step HD3.out.2 hb4)); have HY4 := am (blk_below HY.out H4.out); have HZ4 := am (blk_below HZ.out H4.out); have HT4 := am (show (w4).heap[w2.heap.size]? = some (boxT L.length A1 c1) ∧ (w4).heap[w2.heap.size + 1]? = some (mbox8 R A2 c2 33) from ⟨blk_below H3.out.2.1 H4.out, blk_below H3.out.2.2.1 H4.out⟩); have HT5 := am (show ((w4.setCell ⟨w.heap.size + 1 + 1, 0, none⟩ (.slice A1 L.length c1))).heap[w2.heap.size]? = some (boxT L.length A1 c1) ∧ ((w4.setCell ⟨w.heap.size + 1 + 1, 0, none⟩ (.slice A1 L.length c1))).heap[w2.heap.size + 1]? = some (mbox8 R A2 c2 33) from (by obtain ⟨u1, u2, u3, u4⟩ := set_block (j := 0) (v := .slice A1 L.length c1) rfl HY4.out; exact ⟨(u2 _ (by have := HSZ.out; omega)).trans HT4.out.1, (u2 _ (by have := HSZ.out; omega)).trans HT4.out.2⟩)); have HZ5 := am (show (w4.setCell ⟨w.heap.size + 1 + 1, 0, none⟩ (.slice A1 L.length c1)).heap[w.heap.size + 1 + 1 + 1]? = some (mbox8 zC none 0 33) from (by obtain ⟨u1, u2, u3, u4⟩ := set_block (j := 0) (v := .slice A1 L.length c1) rfl HY4.out; exact (u2 _ (by omega)).trans HZ4.out)); have HT6 := am (show ((((((((((w4.setCell ⟨w.heap.size + 1 + 1, 0, none⟩ (.slice A1 L.length c1)).setCell ⟨w.heap.size + 1 + 1 + 1, 0, none⟩ (.int .i64 R.f0)).setCell ⟨w.heap.size + 1 + 1 + 1, 1, none⟩ (.int .i64 R.f1)).setCell ⟨w.heap.size + 1 + 1 + 1, 2, none⟩ (.int .i64 R.f2)).setCell ⟨w.heap.size + 1 + 1 + 1, 3, none⟩ (.int .i64 R.f3)).setCell ⟨w.heap.size + 1 + 1 + 1, 4, none⟩ (.string R.f4)).setCell ⟨w.heap.size + 1 + 1 + 1, 5, none⟩ (.string R.f5)).setCell ⟨w.heap.size + 1 + 1 + 1, 6, none⟩ (.int .i64 R.f6)).setCell ⟨w.heap.size + 1 + 1 + 1, 7, none⟩ (.slice A2 R.f7.length c2))).heap[w2.heap.size]? = some (boxT L.length A1 c1) ∧ ((((((((((w4.setCell ⟨w.heap.size + 1 + 1, 0, none⟩ (.slice A1 L.length c1)).setCell ⟨w.heap.size + 1 + 1 + 1, 0, none⟩ (.int .i64 R.f0)).setCell ⟨w.heap.size + 1 + 1 + 1, 1, none⟩ (.int .i64 R.f1)).setCell ⟨w.heap.size + 1 + 1 + 1, 2, none⟩ (.int .i64 R.f2)).setCell ⟨w.heap.size + 1 + 1 + 1, 3, none⟩ (.int .i64 R.f3)).setCell ⟨w.heap.size + 1 + 1 + 1, 4, none⟩ (.string R.f4)).setCell ⟨w.heap.size + 1 + 1 + 1, 5, none⟩ (.string R.f5)).setCell ⟨w.heap.size + 1 + 1 + 1, 6, none⟩ (.int .i64 R.f6)).setCell ⟨w.heap.size + 1 + 1 + 1, 7, none⟩ (.slice A2 R.f7.length c2))).heap[w2.heap.size + 1]? = some (mbox8 R A2 c2 33) from (by obtain ⟨u1, u2, u3, u4⟩ := set8 (C := R) (A := A2) (c := c2) HZ5.out rfl; exact ⟨(u2 _ (by have := HSZ.out; omega)).trans HT5.out.1, (u2 _ (by have := HSZ.out; omega)).trans HT5.out.2⟩)); have q0 := blk_cell HT4.out.1 0; obtain ⟨a0, a1, a2, a3, a4, a5, a6, a7⟩ := cells8t HT4.out.2; have r0 := blk_cell HT5.out.1 0; obtain ⟨b0, b1, b2, b3, b4, b5, b6, b7⟩ := cells8t HT5.out.2; have s0 := blk_cell HT6.out.1 0; obtain ⟨c0, c1', c2', c3, c4, c5, c6, c7⟩ := cells8t HT6.out.2; have y0 := blk_cell HY4.out 0; have yf := blk_frozen HY4.out 0; obtain ⟨z0, z1, z2, z3, z4, z5, z6, z7⟩ := cells8t HZ4.out; have zf := fun k => blk_frozen HZ4.out k; clear hb4))
  all_goals
   go_wp2
   go_meet
   case rel =>
    obtain ⟨k1, k2, k3, k4, k5⟩ := two_boxes (F := R) HY4.out HZ4.out (by omega) rfl (n := L.length) (A := A1) (c := c1) (A3 := A2) (c3 := c2)
    exact ⟨rfl, ⟨w4, H4.out, k1, k2, k3, k4, k5⟩⟩
 case rest =>
  obtain ⟨rfl, HF⟩ := hcut
  clear t0 x0 x1 x2 x3 x4 x5 x6 x7
  obtain ⟨w4, hb4, hf⟩ := HF.out
  have H4 := am (And.intro hb4 hf)
  have g0 := blk_cell hf.cy 0
  obtain ⟨y0, y1, y2, y3, y4, y5, y6, y7⟩ := cells8t hf.cz
  clear hb4 hf HF
  go_wp2_with fail
  have hsz := HSZ.out
  have hb4 := H4.out.1
  have hf := H4.out.2
  refine bodyPost_ret (v := .tuple #[.agg #[.slice A1 L.length c1], chv R A2 c2, .int .i64 code]) (by simp [results, Tryz.results13, go_sem, g0, y0, y1, y2, y3, y4, y5, y6, y7, hut, hutr]) rfl (show DoesEnd _ _ _ _ _ _ from ?_)
  have hb24 : Below w2.heap.size w2 w4 := below_step H3.out.1 hb4
  refine ⟨hf.below _ _ (below_step (below_step H1.out.1 HB13.out) hb4) (by omega) (by omega), A1, c1, A2, c2, M, rfl, ?_, ?_⟩
  ·have h2 := Kd.S_move (w1 := wc) (Kd.S_bound (Kd.S_below H2.out.2.1 hb24)) (fun k hk => hf.far k (by have := hk.2.1; omega) (by have := hk.2.1; omega))
   exact Kd.S_lower (Kd.S_mono h2 (fun k hk => hk.1)) (by omega)
  ·have h2 := Kd.S_move (w1 := wc) (Kd.S_bound (Kd.S_below H2.out.2.2.1 hb24)) (fun k hk => hf.far k (by have := hk.2.1; omega) (by have := hk.2.1; omega))
   exact Kd.S_lower (Kd.S_mono h2 (fun k hk => hk.1)) (by omega)
theorem do_calls (ns : List S95) (A : Option Addr) (c : Nat) (C : Chg) (A' : Option Addr) (c' : Nat) (w : World) (hv : Err.ErrVar w) (hC : Kd.C k95 w A ns.length ns) (hc : ns.length ≤ c) (hwf : ∀ n ∈ ns, n.f5 ≤ 9223372036854775807) (hn : ∀ n ∈ ns, n.f3.length < 1000000000) (hin : ChIn w C A') :
  Calls Tryz.prog 13 #[.agg #[.slice A ns.length c], chv C A' c'] w (DoesEnd w (doRes ns C).1 (doRes ns C).2.1 (doRes ns C).2.2) :=
 does ns A c C A' c' w hv _ _ _ (fun W hW => change_any ns A c C A' c' W (Kd.C_below hC hW) hc hwf hn (hin.below hW))
end Go.Proofs.YthjgohbkpjhkeaaGreatDoor.Impl
set_option maxHeartbeats 8000000
set_option maxRecDepth 100000
namespace Go.Proofs.YthjgohbkpjhkeaaGreatDoor.Impl
open Go.RowKit Go.Proofs.YthjgohbkpjhkeaaGreatDoorW.PrintWords Go.Proofs.YthjgohbkpjhkeaaGreatDoorW.PrintLast Go.Proofs.YthjgohbkpjhkeaaGreatDoorW.PrintMore Go.Proofs.YthjgohbkpjhkeaaGreatDoor.PFnExactDo Go.Proofs.YthjgohbkpjhkeaaGreatDoor.MapLib Go.Proofs.YthjgohbkpjhkeaaGreatDoor.FireSpec Go.Proofs.YthjgohbkpjhkeaaGreatDoor.Tr
theorem aok_eq : ∀ (r seen : List S149), (∀ a ∈ seen, a.f0 ≠ ⟨#[]⟩) → (seen.map (·.f0)).Nodup → aok seen r = attrsOk (seen ++ r)
 | [], seen, h1, h2 => by simp [aok, attrsOk, h2]; exact h1
 | a :: r, seen, h1, h2 => by
  rw [aok]
  cases q : (a.f0.toList == []) || seen.any (fun x => x.f0.toList == a.f0.toList)
  ·simp only [Bool.or_eq_false_iff, beq_eq_false_iff_ne, ne_eq, bytes_nil, List.any_eq_false, beq_iff_eq, bytes_eq] at q
   rw [Bool.not_false, Bool.true_and, aok_eq r (seen ++ [a]) (by simpa [or_imp, forall_and] using ⟨h1, q.1⟩) (by
    rw [List.map_append, List.nodup_append]
    exact ⟨h2, by simp, by simpa using fun x hx e => q.2 x hx e⟩), List.append_assoc]
   rfl
  ·rw [Bool.not_true, Bool.false_and]
   symm
   refine decide_eq_false fun ⟨h3, h4⟩ => ?_
   simp only [Bool.or_eq_true, beq_iff_eq, bytes_nil, List.any_eq_true, bytes_eq] at q
   rcases q with q | ⟨x, hx, e⟩
   ·exact h3 a (by simp) q
   ·rw [List.map_append, List.nodup_append] at h4
    exact h4.2.2 _ (List.mem_map_of_mem hx) _ (by simp) e
theorem nodeOk_calls (n : S95) (A : Option Addr) (c : Nat) (first : Bool) (w : World) (hr : Kd.C k149 w A n.f3.length n.f3) (hc : n.f3.length ≤ c) :
  Calls Tryz.prog 66 #[.agg #[.int .i64 n.f0, .int .i64 n.f1, .string n.f2, .slice A n.f3.length c, .string n.f4, .int .i64 n.f5], .bool first] w (BoolAt w (nodeOk n first)) := by
 cases h : (decide (n.f0 < 0) || decide (n.f0 > 1000000) || ((n.f1 == 1) != first))
 ·obtain ⟨h0, h1, rfl, e⟩ := nodeOk_kinds h
  rw [e]
  split
  ·rename_i k2
   have h := nodeOk_elem n.f0 n.f2 n.f4 n.f5 A c n.f3 w h0 h1 hr hc _ _ rfl rfl
   rw [aok_eq _ _ (by simp) (by simp)] at h
   rw [k2]
   exact h
  ·exact nodeOk_flat n.f0 n.f1 n.f2 n.f4 n.f5 A n.f3.length c w h0 h1 ‹_› _ _ _ _ rfl rfl rfl rfl
 ·rw [nodeOk_bad h]
  exact nodeOk_low _ _ _ _ _ _ _ _ _ _ h
theorem kid_le : ∀ (l : List S95) (m p e : Nat), fin (kids l) m p = some e → e = p + l.length → ∀ n ∈ l, kid n ≤ l.length
 | [], _, _, _, _, _, n, hn => by simp at hn
 | a :: l, 0, p, e, h, he, n, hn => by rw [fin_zero] at h; injection h with h; simp at he; omega
 | a :: l, m + 1, p, e, h, he, n, hn => by
  simp only [kids, List.map_cons, fin] at h
  have hb := fin_bounds _ _ _ _ h
  simp only [List.length_map, List.length_cons] at hb he ⊢
  rcases List.mem_cons.1 hn with e1 | hn
  ·rw [e1]; omega
  ·have := kid_le l _ _ _ h (by omega) n hn; omega
def LoopS (ns : List S95) (kq i : Nat) (left : List Nat) : Prop := i + kq = ns.length + 1 ∧ i ≤ ns.length ∧ left.length ≤ i ∧ dropz left = left ∧ (∀ a ∈ left, a ≤ 4000) ∧ treeOk ns = sloop (i == 0) ((ns.take i).map (·.f0)) left (nds (ns.drop i))
abbrev Left (W : World) (b : Nat) (v : Value) (l : List Nat) : Prop := Kd.R (Kd.int .i64) 3 W b (fun _ => True) v (ints l)
theorem LoopS.next {ns : List S95} {kq i : Nat} {left : List Nat} {nd : S95} (h : LoopS ns kq i left) (hlt : i < ns.length) (hk : 0 ≤ nd.f5 ∧ nd.f5 ≤ ns.length) (hb : ns.length ≤ 4000) (hT : treeOk ns = sloop false ((ns.take (i + 1)).map (·.f0)) (dropz (kid nd :: dec left)) (nds (ns.drop (i + 1)))) : LoopS ns (kq - 1) (i + 1) (dropz (kid nd :: dec left)) := by
 obtain ⟨h1, h2, h3, h4, h5, h6⟩ := h
 have hd : (dec left).length = left.length := by cases left <;> simp [dec]
 refine ⟨by omega, by omega, ?_, dropz_idem _, fun a ha => ?_, hT⟩
 ·have := dropz_length (kid nd :: dec left)
  simp only [List.length_cons, hd] at this
  omega
 ·rcases List.mem_cons.1 (dropz_mem _ _ ha) with e | e
  ·unfold kid at e; omega
  ·cases left with
   | nil => simp [dec] at e
   | cons b l =>
    simp only [dec, List.mem_cons] at e
    rcases e with e | e
    ·have := h5 b List.mem_cons_self; omega
    ·exact h5 a (List.mem_cons_of_mem _ e)
theorem specTreeOk_calls (ns : List S95) (A : Option Addr) (c : Nat) (w : World) (hr : Kd.C k95 w A ns.length ns) (hc : ns.length ≤ c) :
  Calls Tryz.prog 40 #[.agg #[.slice A ns.length c]] w (BoolAt w (treeOk ns)) := by
 have hut := Tryz.underlying31
 have hun := Tryz.underlying95
 have HB := am ((Below.refl w.heap.size w).alloc (Nat.le_refl _) (Obj.cells #[.slice A ns.length c] 31))
 have HW := am (blk_newest w (Obj.cells #[.slice A ns.length c] 31))
 have HX := am (Kd.C_below hr HB.out)
 have HC := am hc
 have hn := hr.2.1
 clear hr hc
 have x0 := blk_cell HW.out 0
 by_cases h1 : ns.length < 1
 ·have d1 := decide_eq_true (show (ns.length : Int) < 1 from by omega)
  have HE := am (show treeOk ns = false from by unfold treeOk; rw [decide_eq_false (by omega)]; rfl)
  clear h1 hn
  go_enter Tryz.func40, Tryz.ntmps40
  go_wp2
  go_ret
  rw [HE.out]
  exact ⟨rfl, HB.out⟩
 have d1 := decide_eq_false (show ¬ (ns.length : Int) < 1 from by omega)
 by_cases h2 : 4000 < ns.length
 ·have d2 := decide_eq_true (show (ns.length : Int) > 4000 from by omega)
  have HE := am (show treeOk ns = false from by unfold treeOk; rw [decide_eq_false (by omega)]; rfl)
  clear h1 h2 hn
  go_enter Tryz.func40, Tryz.ntmps40
  go_wp2
  go_ret
  rw [HE.out]
  exact ⟨rfl, HB.out⟩
 have d2 := decide_eq_false (show ¬ (ns.length : Int) > 4000 from by omega)
 obtain ⟨k, hk⟩ := (skip_f ns (by omega) 0 (by omega)).some
 obtain ⟨z, hz⟩ : ∃ z, skipL ns.length (ns.drop 0) 1 (0 : Nat) = z := ⟨_, rfl⟩
 rw [hz] at hk
 have HS := am (fun W (hW : Below (w.alloc (Obj.cells #[.slice A ns.length c] 31)).heap.size (w.alloc (Obj.cells #[.slice A ns.length c] 31)) W) => spec_l3Skip.calls k A c ns 0 z W (Kd.C_below HX.out hW) HC.out hk)
 have hwhole := skip_whole ns.length ns 1 0 (Nat.le_refl _)
 rw [List.drop_zero] at hz
 rw [hz, show ((0 : Nat) : Int) + ns.length = ns.length from by omega, show 0 + ns.length = ns.length from by omega] at hwhole
 cases d3 : (z != (ns.length : Int))
 rotate_left
 ·have HE := am (show treeOk ns = false from by unfold treeOk; rw [decide_eq_false (fun h => by have := hwhole.2 ⟨h.2.2.1, h.2.2.2⟩; simp [this] at d3)]; rfl)
  clear h1 h2 hn hwhole hk hz
  go_enter Tryz.func40, Tryz.ntmps40
  go_wp2_with (first | (go_at_call 65; refine (HS.out _ (Below.refl _ _)).mono ?_; rintro e w2 ⟨rfl, hb2⟩; have HB2 := am (hb2.below); clear hb2) | fail)
  go_ret
  rw [HE.out]
  exact ⟨rfl, HB.out.trans (HB2.out.mono HB.out.size)⟩
 obtain ⟨hkp, hf⟩ := hwhole.1 (by simpa using d3)
 have HN := am (show (∀ n ∈ ns, 0 ≤ n.f5 ∧ n.f5 ≤ ns.length) ∧ ns.length ≤ 4000 ∧ treeOk ns = sloop true [] [] (nds ns) from ⟨fun n hm => ⟨hkp n hm, by have := kid_le ns 1 0 ns.length hf (by omega) n hm; have := hkp n hm; unfold kid at *; omega⟩, by omega, by unfold treeOk; rw [decide_eq_true ⟨by omega, by omega, hkp, hf⟩, Bool.true_and]⟩)
 clear h1 h2 hn hwhole hk hz hkp hf
 go_enter Tryz.func40, Tryz.ntmps40
 go_wp2_with (first | (go_at_call 65; refine (HS.out _ (Below.refl _ _)).mono ?_; rintro e w2 ⟨rfl, hb2⟩; have HB2 := am (hb2.below); clear hb2) | fail)
 have HBT := am (below_step HB.out HB2.out)
 have HX2 := am (Kd.C_below HX.out HB2.out)
 have HW2 := am (blk_below HW.out HB2.out)
 clear HS HX HW HB HB2 x0
 go_loopg [4, 5] (ns.length + 1) (fun kq v4 v5 wr => ∃ (i : Nat) (left : List Nat), v5 = .int .i64 i ∧ Aside0 (LoopS ns kq i left) ∧ Aside0 (Left wr w2.heap.size v4 left) ∧ Aside0 (Below w2.heap.size w2 wr))
 case atStart =>
  refine ⟨0, [], rfl, ⟨by omega, by omega, by simp, rfl, by simp, HN.out.2.2⟩, ⟨?_⟩, ⟨(Below.refl _ _).alloc (Nat.le_refl _) _⟩⟩
  have h := own_lit w2 w2.heap.size 3 .i64 [] (Nat.le_refl _) (by simp)
  exact Kd.R_of_own (enc := Value.int .i64) (h1 := fun _ => rfl) (by simpa [nums, ints, encs] using h) (fun _ _ => trivial)
 case round =>
  obtain ⟨i, left, rfl, HI, HO, HB⟩ := hrel
  obtain ⟨gO, rfl⟩ : ∃ g, g = gk := ⟨_, rfl⟩
  rename World => wo
  have HB1 := am (below_step HBT.out HB.out)
  have x0 := blk_cell (blk_below HW2.out HB.out) 0
  have hd : decide ((i : Int) < (ns.length : Int)) = decide (i < ns.length) := by simp
  by_cases hlt : i < ns.length
  ·have hd2 : decide (i < ns.length) = true := decide_eq_true hlt
   rw [hd2] at hd
   have hib : (i : Int) < 4001 := by have := HN.out.2.1; omega
   have e3 := eq_true (show (0 : Int) ≤ (i : Int) from by omega)
   have e4 := eq_true (show (i : Int) < ns.length from by omega)
   obtain ⟨ad, A3, c3, hA, hx0, hx1, hx2, hx3, hx4, hx5, hl3, hi3⟩ := at_T95 HX2.out (i : Int) (by omega) (by omega)
   subst hA
   rw [show rd_T95 ns (i : Int) = ns[i] from by simp [rd_T95, hlt]] at hx0 hx1 hx2 hx3 hx4 hx5 hl3 hi3
   simp only [Int.toNat_natCast] at hx0 hx1 hx2 hx3 hx4 hx5
   have hT := HI.out.2.2.2.2.2
   rw [List.drop_eq_getElem_cons hlt] at hT
   simp only [nds, List.map_cons, sloop] at hT
   have hkd := HN.out.1 _ (List.getElem_mem hlt)
   have htk : (ns.take (i + 1)).map (·.f0) = (ns.take i).map (·.f0) ++ [ns[i].f0] := by rw [List.take_succ_eq_append_getElem hlt, List.map_append]; rfl
   generalize ns[i] = nd at hx0 hx1 hx2 hx3 hx4 hx5 hl3 hi3 hT hkd htk
   obtain ⟨b1, hb1⟩ : ∃ b, nodeOk nd (i == 0) = b := ⟨_, rfl⟩
   have hz : ((i : Int) == 0) = (i == 0) := by rw [Bool.eq_iff_iff]; simp
   have HK := am (show ∀ W, Below wo.heap.size wo W → Calls Tryz.prog 66 #[.agg #[.int .i64 nd.f0, .int .i64 nd.f1, .string nd.f2, .slice A3 nd.f3.length c3, .string nd.f4, .int .i64 nd.f5], .bool ((i : Int) == 0)] W (BoolAt W b1) from fun W hW => by rw [hz, ← hb1]; exact nodeOk_calls nd A3 c3 _ W (Kd.C_below hi3 (below_step HB.out hW)) hl3)
   obtain ⟨A4, c4, e4'⟩ := Kd.R_slice HO.out
   subst e4'
   have hll : (ints left).length = left.length := ints_length left
   obtain ⟨b2, hb2⟩ : ∃ b, decide (400 < left.length) = b := ⟨_, rfl⟩
   have d2b : decide (((ints left).length : Int) > 400) = b2 := by rw [← hb2, hll, decide_eq_decide]; omega
   rw [hb1, hb2] at hT
   have HT := am hT
   have HLT := am (And.intro hlt (And.intro hkd htk))
   have HLL := am (And.intro hll hb2)
   clear hT hlt hkd htk hb1 hb2 hz hl3 hi3 hll
   have HBx := am (show ∀ W, Below w2.heap.size w2 W → W.cell? (ad.add (i * 6)) = some (.int .i64 nd.f0) ∧ W.cell? ⟨(ad.add (i * 6)).block, (ad.add (i * 6)).off + 5, none⟩ = some (.int .i64 nd.f5) from fun W h => ⟨pw_cell_below h hx0, pw_cell_below h hx5⟩)
   replace hx0 := pw_cell_below HB.out hx0
   replace hx1 := pw_cell_below HB.out hx1
   replace hx2 := pw_cell_below HB.out hx2
   replace hx3 := pw_cell_below HB.out hx3
   replace hx4 := pw_cell_below HB.out hx4
   replace hx5 := pw_cell_below HB.out hx5
   cases b1
   ·have HE := am (show treeOk ns = false from by rw [HT.out]; rfl)
    rw [HE.out]
    go_wp2_with (first | (go_at_call 66; refine (HK.out _ (Below.refl _ _)).mono ?_; rintro e w3 ⟨rfl, hb3⟩; have HB3 := am (below_step HB1.out hb3); clear hb3) | fail)
    go_ret
    exact ⟨rfl, HB3.out⟩
   cases b2
   rotate_left
   ·have HE := am (show treeOk ns = false from by rw [HT.out]; rfl)
    go_wp2_with (first | (go_at_call 66; refine (HK.out _ (Below.refl _ _)).mono ?_; rintro e w3 ⟨rfl, hb3⟩; have HB3 := am (below_step HB1.out hb3); clear hb3) | fail)
    go_ret
    rw [HE.out]
    exact ⟨rfl, HB3.out⟩
   go_wp2_with (first | (go_at_call 66; refine (HK.out _ (Below.refl _ _)).mono ?_; rintro e w3 ⟨rfl, hb3⟩; have H3 := am hb3; have HB3 := am (below_step HB.out hb3); clear hb3) | fail)
   obtain ⟨d, hd9⟩ : ∃ d, ((ns.take i).map (·.f0)).contains nd.f0 = d := ⟨_, rfl⟩
   have HT2 := am (show treeOk ns = if d then false else sloop false ((ns.take (i + 1)).map (·.f0)) (dropz (kid nd :: dec left)) (nds (ns.drop (i + 1))) from by rw [HT.out, hd9, HLT.out.2.2]; simp [nds])
   have HD9 := am hd9
   clear hd9 hx0 hx1 hx2 hx3 hx4 hx5 x0 HT
   go_loopg [6] (i + 1) (fun kq v6 wr => ∃ j : Nat, v6 = .int .i64 j ∧ Aside0 (j + kq = i + 1 ∧ j ≤ i ∧ (((ns.take i).map (·.f0)).drop j).contains nd.f0 = d) ∧ Aside0 (Below w3.heap.size w3 wr))
   case atStart => exact ⟨0, rfl, ⟨by omega, by omega, HD9.out⟩, ⟨Below.refl _ _⟩⟩
   case round =>
    obtain ⟨j, rfl, HJ, HBi⟩ := hrel
    have HB5 := am (below_step HB3.out HBi.out)
    have x0 := blk_cell (blk_below HW2.out HB5.out) 0
    have hdj : decide ((j : Int) < (i : Int)) = decide (j < i) := by simp
    have hx0 := (HBx.out _ HB5.out).1
    by_cases hji : j < i
    ·have hdj2 : decide (j < i) = true := decide_eq_true hji
     rw [hdj2] at hdj
     have e5 := eq_true (show (0 : Int) ≤ (j : Int) from by omega)
     have e6 := eq_true (show (j : Int) < ns.length from by have := HLT.out.1; omega)
     have hjb : (j : Int) < 4001 := by omega
     obtain ⟨ad2, A5, c5, hA, hy0, hy1, hy2, hy3, hy4, hy5, hl5, hi5⟩ := at_T95 (Kd.C_below HX2.out HB5.out) (j : Int) (by omega) (by have := HLT.out.1; omega)
     injection hA with hA
     subst hA
     have hjn : j < ns.length := by have := HLT.out.1; omega
     rw [show rd_T95 ns (j : Int) = ns[j] from by simp [rd_T95, hjn]] at hy0
     simp only [Int.toNat_natCast] at hy0
     have hjd := HJ.out.2.2
     rw [List.drop_eq_getElem_cons (by simp only [List.length_map, List.length_take]; omega), List.contains_cons, List.getElem_map, List.getElem_take] at hjd
     generalize ns[j].f0 = id2 at hy0 hjd
     clear hy1 hy2 hy3 hy4 hy5 hl5 hi5 hjn
     have HJ2 := am hji
     clear hji
     go_wp2
     go_region
     cases q : (id2 == nd.f0)
     ·have HR := am (show (((ns.take i).map (·.f0)).drop (j + 1)).contains nd.f0 = d from by rw [← hjd, show (nd.f0 == id2) = false from by rw [← q, Bool.eq_iff_iff, beq_iff_eq, beq_iff_eq]; exact eq_comm, Bool.false_or])
      clear hjd
      go_wp2
      have hii : (j : Int) + 1 = ((j + 1 : Nat) : Int) := by omega
      go_roundg (gk - 1)
      case measure => have := HJ.out; omega
      case rel => exact ⟨j + 1, by rw [hii], ⟨by have := HJ.out; omega, HJ2.out, HR.out⟩, ⟨HBi.out.drew⟩⟩
     ·have HR := am (show d = true from by rw [← hjd, show (nd.f0 == id2) = true from by rw [← q, Bool.eq_iff_iff, beq_iff_eq, beq_iff_eq]; exact eq_comm, Bool.true_or])
      have HE := am (show treeOk ns = false from by rw [HT2.out, HR.out]; rfl)
      clear hjd
      go_wp2
      go_ret
      rw [HE.out]
      exact ⟨rfl, (below_step HBT.out HB5.out).drew⟩
    ·have hdj2 : decide (j < i) = false := decide_eq_false hji
     rw [hdj2] at hdj
     have HR := am (show d = false from by have h := HJ.out.2.2; rw [List.drop_eq_nil_of_le (by simp only [List.length_map, List.length_take]; omega)] at h; exact h.symm)
     have HE := am (show treeOk ns = sloop false ((ns.take (i + 1)).map (·.f0)) (dropz (kid nd :: dec left)) (nds (ns.drop (i + 1))) from by rw [HT2.out, HR.out]; rfl)
     clear hji HT2 HD9 HK hx0 x0
     have HOi := am (Kd.R_below HO.out (below_step H3.out HBi.out))
     clear HO HJ
     rename World => wi
     have d63 : decide (0 < (ints left).length) = !left.isEmpty := by cases left <;> simp [ints]
     go_upto_region 15 with (fail)
     go_cut [63] (fun v63 wc => v63 = .bool (!left.isEmpty) ∧ wc = wi)
     case first =>
      go_wp2
      go_meet
      case rel => exact ⟨rfl, rfl⟩
     obtain ⟨rfl, hw⟩ := hcut
     subst hw
     rename_i hk
     refine hk _ _ ?_
     clear d63
     rename World => wi
     go_cut [4] (fun v4 wc => Aside0 (Left wc w2.heap.size v4 (dec left)) ∧ Aside0 (Below w2.heap.size w2 wc ∧ wi.heap.size ≤ wc.heap.size))
     case first =>
      cases left with
      | nil =>
       rw [show (ints []).length = 0 from rfl]
       go_wp2
       go_meet
       case rel => exact ⟨HOi, ⟨HB5.out, Nat.le_refl _⟩⟩
      | cons a r =>
       obtain ⟨g4, c6, e6, gb4, gl4, cl4, hg4⟩ := Kd.R_form HOi.out (by rw [ints_length]; simp)
       injection e6 with e6 _ e7
       subst e6 e7
       have hlen : (ints (a :: r)).length = r.length + 1 := by rw [ints_length]; rfl
       have HO3 := am (show Kd.R (Kd.int .i64) 3 wi w2.heap.size (fun _ => True) (.slice (some ⟨g4, 0, none⟩) (r.length + 1) c4) (ints (a :: r)) by have := HOi.out; rwa [hlen] at this)
       rw [hlen]
       have GB4 := am gb4
       obtain ⟨hx4, hf4⟩ := Kd.R_celln (0 : Int) HO3.out (r.length : Int) (by omega) (by omega)
       have hrd : rdOf (0 : Int) (ints (a :: r)) (r.length : Int) = a := by rw [ints_cons, ← ints_length r]; simp [rdOf]
       rw [hrd, Int.toNat_natCast] at hx4
       rw [Int.toNat_natCast] at hf4
       have ha := dropz_head _ _ _ HI.out.2.2.2.1
       have ha2 := HI.out.2.2.2.2.1 a List.mem_cons_self
       have hp := Kd.R_putg HO3.out (r.length : Int) ((a : Int) - 1)
       have hset : (ints (a :: r)).set r.length ((a : Int) - 1) = ints (dec (a :: r)) := by
        rw [show (a : Int) - 1 = ((a - 1 : Nat) : Int) from by omega, ints_cons, ← ints_length r, set_last]
        simp only [dec]
        rw [ints_cons]
       rw [Int.toNat_natCast, hset] at hp
       have HP := am hp.1
       have hrl : r.length ≤ 3999 := by have h1 := HI.out.2.2.1; simp only [List.length_cons] at h1; have := HN.out.2.1; have := HLT.out.1; omega
       clear hlen hrd hset hp gb4 gl4 hg4 HOi HO3
       go_wp2_with (first | ((with_reducible refine gate_store (t := 3) (p := 71) rfl ?_); refine store_event (t := 3) (p := 71) (v := ?vo) (w1 := wi.setCell ⟨g4, r.length, none⟩ (.int .i64 ((a : Int) - 1))) ?hg ?ho ?hn ?hr ?_; (case ho => rfl); (case hg => rfl); (case hn => rfl); (case hr => first | (go_simp; done) | (go_simp; rfl)); intro w11 hw11; have HO5 := am (show Kd.R (Kd.int .i64) 3 w11 w2.heap.size (fun _ => True) (.slice (some ⟨g4, 0, none⟩) (r.length + 1) c4) (ints (dec (a :: r))) by rw [hw11]; exact HP.out); have HB11 := am (show Below w2.heap.size w2 w11 ∧ wi.heap.size ≤ w11.heap.size by rw [hw11]; exact ⟨below_set HB5.out GB4.out, by simp⟩); clear hw11 hx4 hf4) | fail)
       go_meet
       case rel => exact ⟨HO5, HB11⟩
     case rest =>
      obtain ⟨HOc, HBc⟩ := hcut
      obtain ⟨A6, c6, e6⟩ := Kd.R_slice HOc.out
      subst e6
      have hdl : (ints (dec left)).length ≤ 4000 := by rw [ints_length]; have h1 := HI.out.2.2.1; have := HN.out.2.1; have := HLT.out.1; cases left <;> simp only [dec, List.length_cons, List.length_nil] at * <;> omega
      have x0 := blk_cell (blk_below HW2.out HBc.out.1) 0
      have hx5 : wc.cell? ⟨(ad.add (i * 6)).block, (ad.add (i * 6)).off + 5, none⟩ = some (.int .i64 nd.f5) := (HBx.out _ HBc.out.1).2
      go_upto_block 4 with (first | ((with_reducible refine gate_builtin (b := .append) (xs := #[.tmp 72, .tmp 79]) rfl ?_); at_builtin; refine Kd.R_append (Kd.int .i64) (w0 := w2) w2.heap.size rfl (.tmp 72) (.tmp 79) 44 3 (.int .i64 0) 8 rfl Tryz.underlying44 info3 rfl (by decide) (by omega) (.slice A6 (ints (dec left)).length c6) (ints (dec left)) nd.f5 [.int .i64 nd.f5] (fun _ => True) (fun _ => False) rfl rfl ?aP (fun _ hk => hk.elim) ?aF ?aO ?aB ?aS ?aL ?_; (case aP => exact rfl); (case aB => exact HBc.out.1); (case aF => exact (fun _ _ => trivial)); (case aO => exact HOc.out); (case aS => exact (below_size HBc.out.1)); (case aL => omega); intro v12 w12 ho hb hg hat; have HO12 := am ho; have HB12 := am hb; clear ho hb hg hat) | fail)
      have HO13 := am (show Left w12 w2.heap.size v12 (kid nd :: dec left) from by
       have h := HO12.out
       unfold Left
       rw [ints_cons, show ((kid nd : Nat) : Int) = nd.f5 from by have := HLT.out.2.1; unfold kid; omega]
       exact h)
      have HLB := am (show (kid nd :: dec left).length ≤ 4001 from by rw [ints_length] at hdl; simp only [List.length_cons]; omega)
      clear x0 hx5 hdl HO12 HOc HBc
      go_wp2
      go_loopg [4] ((kid nd :: dec left).length + 1) (fun kq v4 wr => ∃ l2 : List Nat, Aside0 (l2.length + 1 = kq ∧ dropz l2 = dropz (kid nd :: dec left) ∧ l2.length ≤ 4001) ∧ wr = w12 ∧ Aside0 (Left w12 w2.heap.size v4 l2))
      case atStart => exact ⟨_, ⟨rfl, rfl, HLB.out⟩, rfl, HO13⟩
      case round =>
       obtain ⟨l2, HL2, hw, HO2⟩ := hrel
       subst hw
       have HD := am HL2.out.2.1
       obtain ⟨A7, c7, e7⟩ := Kd.R_slice HO2.out
       subst e7
       cases l2 with
       | nil =>
        have HO3 := am (show Left wr w2.heap.size (.slice A7 0 c7) (dropz (kid nd :: dec left)) from by rw [← HD.out]; exact HO2.out)
        rw [show (ints []).length = 0 from rfl]
        clear HO2
        go_wp2
        have hii : (i : Int) + 1 = ((i + 1 : Nat) : Int) := by omega
        go_roundg (gO - 1)
        case measure => have := HI.out.1; have := HLT.out.1; omega
        case rel => exact ⟨i + 1, _, by rw [hii], ⟨HI.out.next HLT.out.1 HLT.out.2.1 HN.out.2.1 HE.out⟩, HO3, HB12⟩
       | cons a r =>
        have hlen : (ints (a :: r)).length = r.length + 1 := by rw [ints_length]; rfl
        obtain ⟨ad4, e4, hx4⟩ := Kd.at_int (Kd.R_reads' HO2.out).2.2 (r.length : Int) (by omega) (by rw [hlen]; omega)
        cases e4
        have hrd : rd (ints (a :: r)) (r.length : Int) = a := by rw [ints_cons, ← ints_length r]; exact rd_last _ _
        rw [hrd, Int.toNat_natCast] at hx4
        have HO3 := am (show Left wr w2.heap.size (.slice (some ad4) (r.length + 1) c7) (a :: r) by have := HO2.out; rwa [hlen] at this)
        rw [hlen]
        clear hlen hrd HO2
        have hrl : r.length ≤ 4000 := by have := HL2.out.2.2; simp only [List.length_cons] at this; omega
        by_cases ha : a = 0
        ·subst ha
         obtain ⟨i0, hi0, _, hsz0, _⟩ := info_parts info3
         have hcut := cut_to (P := Tryz.prog) 44 3 .i64 Tryz.underlying44 hi0 (some ad4) (r.length + 1) c7 (r.length : Int) (by omega) (by omega) (Kd.R_reads' HO3.out).2.1
         go_wp2
         go_roundg (gk - 1)
         case measure => have := HL2.out.1; simp only [List.length_cons] at this; omega
         case rel =>
          have h1 := HL2.out
          simp only [List.length_cons] at h1
          refine ⟨r, ⟨by omega, by rw [← h1.2.1]; simp [dropz], by omega⟩, rfl, ⟨?_⟩⟩
          have h2 := Kd.R_take (m := r.length) HO3.out (by rw [ints_length]; simp)
          have h3 : (ints (0 :: r)).take r.length = ints r := by rw [ints_cons, ← ints_length r]; simp
          rw [h3] at h2
          exact h2
        ·have HO4 := am (show Left wr w2.heap.size (.slice (some ad4) (r.length + 1) c7) (dropz (kid nd :: dec left)) from by rw [← HD.out, show dropz (a :: r) = a :: r by simp [dropz, ha]]; exact HO3.out)
         have ha1 : ((a : Int) == 0) = false := by rw [beq_eq_false_iff_ne]; omega
         clear ha
         go_wp2
         have hii : (i : Int) + 1 = ((i + 1 : Nat) : Int) := by omega
         go_roundg (gO - 1)
         case measure => have := HI.out.1; have := HLT.out.1; omega
         case rel => exact ⟨i + 1, _, by rw [hii], ⟨HI.out.next HLT.out.1 HLT.out.2.1 HN.out.2.1 HE.out⟩, HO4, HB12⟩
  ·have hd2 : decide (i < ns.length) = false := decide_eq_false hlt
   rw [hd2] at hd
   have HE := am (show treeOk ns = true from by have h := HI.out.2.2.2.2.2; rw [List.drop_eq_nil_of_le (by omega)] at h; exact h)
   clear hlt
   go_wp2
   go_ret
   rw [HE.out]
   exact ⟨rfl, HB1.out⟩
end Go.Proofs.YthjgohbkpjhkeaaGreatDoor.Impl
