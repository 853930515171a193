/- Part 22 of the proof: DoChange, DoChDone. -/
import Derived.Test.YthjgohbkpjhkeaaGreatDoorA1
import Derived.Test.YthjgohbkpjhkeaaGreatDoorA21
import Derived.Test.YthjgohbkpjhkeaaGreatDoorA7
set_option linter.unusedVariables false
set_option linter.unusedSimpArgs false
set_option maxHeartbeats 4000000
set_option maxRecDepth 100000
namespace Go.Proofs.YthjgohbkpjhkeaaGreatDoor.Impl
open Go.RowKit Go.Proofs.YthjgohbkpjhkeaaGreatDoorW.PrintWords Go.Proofs.YthjgohbkpjhkeaaGreatDoorW.PrintLast Go.Proofs.YthjgohbkpjhkeaaGreatDoorW.PrintMore Go.Proofs.YthjgohbkpjhkeaaGreatDoor.PFnExactDo Go.Proofs.YthjgohbkpjhkeaaGreatDoor.MapLib Go.Proofs.YthjgohbkpjhkeaaGreatDoor.FireSpec Go.Proofs.YthjgohbkpjhkeaaGreatDoor.Tr Go.Proofs.YthjgohbkpjhkeaaGreatDoor.Fo
abbrev zC : Chg := ⟨0, 0, 0, 0, ⟨#[]⟩, ⟨#[]⟩, 0, []⟩
abbrev boxT (n : Nat) (A : Option Addr) (c : Nat) : Obj := .cells #[.slice A n c] 31
theorem box_four (w : World) (n : Nat) (A : Option Addr) (c : Nat) (C : Chg) (A' : Option Addr) (c' : Nat) : let w1 := ((((w.alloc (boxT n A c)).alloc (mbox8 C A' c' 33)).alloc (boxT 0 none 0)).alloc (mbox8 zC none 0 33))
  Below w.heap.size w w1 ∧ w1.heap[w.heap.size]? = some (boxT n A c) ∧ w1.heap[w.heap.size + 1]? = some (mbox8 C A' c' 33) ∧ w1.heap[w.heap.size + 1 + 1]? = some (boxT 0 none 0) ∧ w1.heap[w.heap.size + 1 + 1 + 1]? = some (mbox8 zC none 0 33) ∧ w1.heap.size = w.heap.size + 4 := by
 intro w1
 have old : ∀ (W : World) (o o' : Obj) (k : Nat), W.heap[k]? = some o' → (W.alloc o).heap[k]? = some o' := fun W o o' k h => blk_below h ((Below.refl _ W).alloc (Nat.le_refl _) _)
 have new : ∀ (W : World) (o : Obj) (k : Nat), k = W.heap.size → (W.alloc o).heap[k]? = some o := fun W o k h => h ▸ blk_newest W o
 refine ⟨((((Below.refl _ w).alloc (Nat.le_refl _) _).alloc (by simp) _).alloc (by simp; omega) _).alloc (by simp; omega) _, ?_, ?_, ?_, ?_, ?_⟩
 ·exact old _ _ _ _ (old _ _ _ _ (old _ _ _ _ (new _ _ _ rfl)))
 ·exact old _ _ _ _ (old _ _ _ _ (new _ _ _ (by simp)))
 ·exact old _ _ _ _ (new _ _ _ (by simp))
 ·exact new _ _ _ (by simp)
 ·simp [w1]
theorem two_boxes {w3 w5 : World} {y z n : Nat} {A0 A A2 A3 : Option Addr} {c0 c c2 c3 n0 : Nat} {F0 F : Chg} (hY : w3.heap[y]? = some (boxT n0 A0 c0)) (hZ : w3.heap[z]? = some (mbox8 F0 A2 c2 33)) (hne : y ≠ z)
  (h : w5 = (((((((((w3.setCell ⟨y, 0, none⟩ (.slice A n c)).setCell ⟨z, 0, none⟩ (.int .i64 F.f0)).setCell ⟨z, 1, none⟩ (.int .i64 F.f1)).setCell ⟨z, 2, none⟩ (.int .i64 F.f2)).setCell ⟨z, 3, none⟩ (.int .i64 F.f3)).setCell ⟨z, 4, none⟩ (.string F.f4)).setCell ⟨z, 5, none⟩ (.string F.f5)).setCell ⟨z, 6, none⟩ (.int .i64 F.f6)).setCell ⟨z, 7, none⟩ (.slice A3 F.f7.length c3))) :
  w5.heap[y]? = some (boxT n A c) ∧ w5.heap[z]? = some (mbox8 F A3 c3 33) ∧ (∀ k, k ≠ y → k ≠ z → w5.heap[k]? = w3.heap[k]?) ∧ w5.heap.size = w3.heap.size ∧ ∀ B w0, Below B w0 w3 → B ≤ y → B ≤ z → Below B w0 w5 := by
 obtain ⟨a1, a2, a3, a4⟩ := set_block (j := 0) (v := .slice A n c) rfl hY
 obtain ⟨b1, b2, b3, b4⟩ := set8 ((a2 z (fun e => hne e.symm)).trans hZ) h
 exact ⟨(b2 y hne).trans a1, b1, fun k h1 h2 => (b2 k h2).trans (a2 k h1), by rw [b3, a3], fun B w0 h1 h2 h3 => b4 _ _ (a4 _ _ h1 h2) h3⟩
structure FE (w5 wf : World) (y z : Nat) (o : Obj) : Prop where
 cy : wf.heap[y]? = some (boxT 0 none 0)
 cz : wf.heap[z]? = some (mbox8 zC none 0 33)
 new : wf.heap[w5.heap.size]? = some o
 far : ∀ k, k < w5.heap.size → k ≠ y → k ≠ z → wf.heap[k]? = w5.heap[k]?
 below : ∀ B w0, Below B w0 w5 → B ≤ y → B ≤ z → Below B w0 wf
section
variable {w5 wf : World} {y z : Nat} {o : Obj} (hY : w5.heap[y]? = some (boxT 0 none 0)) (hZ : w5.heap[z]? = some (mbox8 zC none 0 33)) (hne : y ≠ z)
include hY hZ hne
theorem fe1 {w6 wa : World} (h : wf = w6.drew) (hwa : wa = w5.alloc o) (hw6 : w6 = (((((((((wa.setCell ⟨y, 0, none⟩ (.slice none 0 0)).setCell ⟨z, 0, none⟩ (.int .i64 0)).setCell ⟨z, 1, none⟩ (.int .i64 0)).setCell ⟨z, 2, none⟩ (.int .i64 0)).setCell ⟨z, 3, none⟩ (.int .i64 0)).setCell ⟨z, 4, none⟩ (.string ⟨#[]⟩)).setCell ⟨z, 5, none⟩ (.string ⟨#[]⟩)).setCell ⟨z, 6, none⟩ (.int .i64 0)).setCell ⟨z, 7, none⟩ (.slice none 0 0))) : FE w5 wf y z o := by
 have hal : Below w5.heap.size w5 wa := by rw [hwa]; exact (Below.refl _ w5).alloc (Nat.le_refl _) _
 have hne1 : wa.heap[w5.heap.size]? = some o := by rw [hwa]; exact blk_newest w5 o
 have hB : ∀ B w0, Below B w0 w5 → B ≤ y → Below B w0 wa := fun B w0 h1 h2 => by
  have hy := blk_lt hY
  rw [hwa]
  exact h1.alloc (by omega) o
 clear hwa
 obtain ⟨a1, a2, a3, a4, a5⟩ := two_boxes (F := zC) (blk_below hY hal) (blk_below hZ hal) hne hw6 (n := 0) (A := none) (c := 0) (A3 := none) (c3 := 0)
 have hy := blk_lt hY
 have hz := blk_lt hZ
 clear hw6
 subst h
 exact ⟨a1, a2, (a3 _ (by omega) (by omega)).trans hne1, fun k h1 h2 h3 => (a3 k h2 h3).trans (hal.block k h1), fun B w0 h1 h2 h3 => (a5 B w0 (hB B w0 h1 h2) h2 h3).drew⟩
theorem fe2 {w6 wa : World} (h : wf = w6.drew) (hwa : wa = (w5.setCell ⟨y, 0, none⟩ (.slice none 0 0)).alloc o) (hw6 : w6 = ((((((((wa.setCell ⟨z, 0, none⟩ (.int .i64 0)).setCell ⟨z, 1, none⟩ (.int .i64 0)).setCell ⟨z, 2, none⟩ (.int .i64 0)).setCell ⟨z, 3, none⟩ (.int .i64 0)).setCell ⟨z, 4, none⟩ (.string ⟨#[]⟩)).setCell ⟨z, 5, none⟩ (.string ⟨#[]⟩)).setCell ⟨z, 6, none⟩ (.int .i64 0)).setCell ⟨z, 7, none⟩ (.slice none 0 0))) : FE w5 wf y z o := by
 obtain ⟨wb, hwb⟩ : ∃ wb, wb = w5.setCell ⟨y, 0, none⟩ (.slice none 0 0) := ⟨_, rfl⟩
 rw [← hwb] at hwa
 obtain ⟨b1, b2, b3, b4⟩ := set_block hwb hY
 have hal : Below wb.heap.size wb wa := by rw [hwa]; exact (Below.refl _ _).alloc (Nat.le_refl _) _
 have hne1 : wa.heap[wb.heap.size]? = some o := by rw [hwa]; exact blk_newest wb o
 have hB : ∀ B w0, Below B w0 wb → B ≤ wb.heap.size → Below B w0 wa := fun B w0 h1 h2 => by rw [hwa]; exact h1.alloc h2 o
 have hy := blk_lt hY
 have hz := blk_lt hZ
 clear hwa
 obtain ⟨a1, a2, a3, a4⟩ := set8 (C := zC) (A := none) (c := 0) (blk_below ((b2 z (fun e => hne e.symm)).trans hZ) hal) hw6
 clear hw6 hwb
 subst h
 rw [b3] at hne1
 exact ⟨(a2 y hne).trans (blk_below b1 hal), a1, (a2 _ (by omega)).trans hne1, fun k h1 h2 h3 => (a2 k h3).trans ((hal.block k (by omega)).trans (b2 k h2)), fun B w0 h1 h2 h3 => (a4 _ _ (hB _ _ (b4 _ _ h1 h2) (by omega)) h3).drew⟩
theorem fe3 {w6 : World} (h : wf = (w6.alloc o).drew) (hw6 : w6 = (((((((((w5.setCell ⟨y, 0, none⟩ (.slice none 0 0)).setCell ⟨z, 0, none⟩ (.int .i64 0)).setCell ⟨z, 1, none⟩ (.int .i64 0)).setCell ⟨z, 2, none⟩ (.int .i64 0)).setCell ⟨z, 3, none⟩ (.int .i64 0)).setCell ⟨z, 4, none⟩ (.string ⟨#[]⟩)).setCell ⟨z, 5, none⟩ (.string ⟨#[]⟩)).setCell ⟨z, 6, none⟩ (.int .i64 0)).setCell ⟨z, 7, none⟩ (.slice none 0 0))) : FE w5 wf y z o := by
 obtain ⟨a1, a2, a3, a4, a5⟩ := two_boxes (F := zC) hY hZ hne hw6 (n := 0) (A := none) (c := 0) (A3 := none) (c3 := 0)
 have hy := blk_lt hY
 have hz := blk_lt hZ
 clear hw6
 have hal : Below w6.heap.size w6 (w6.alloc o).drew := ((Below.refl _ _).alloc (Nat.le_refl _) _).drew
 subst h
 refine ⟨blk_below a1 hal, blk_below a2 hal, ?_, fun k h1 h2 h3 => (hal.block k (by omega)).trans (a3 k h2 h3), fun B w0 h1 h2 h3 => ((a5 B w0 h1 h2 h3).alloc (by omega) o).drew⟩
 have := blk_newest w6 o
 rw [a4] at this
 exact this
end
theorem deny2 (k : Int) (w : World) : Calls Tryz.prog 75 #[.int .i64 k] w fun e w' => ∃ r, e = .returned (.iface 127 (.pointer (some ⟨r, 0, none⟩))) ∧ w.heap.size ≤ r ∧ Below w.heap.size w w' ∧ w'.cell? ⟨r, 0, none⟩ = some (.int .i64 k) :=
 (deny_calls k w).mono (fun e w' h => ⟨w.heap.size, h.1, Nat.le_refl _, by rw [h.2]; exact (Below.refl _ w).alloc (Nat.le_refl _) _, by rw [h.2]; simp⟩)
theorem change_refused (ns : List S95) (A : Option Addr) (c : Nat) (C : Chg) (A' : Option Addr) (c' : Nat) (w : World) (hC : Kd.C k95 w A ns.length ns) (hc : ns.length ≤ c) (hwf : ∀ n ∈ ns, n.f5 ≤ 9223372036854775807) (hno : treeOk ns = false) :
  Calls Tryz.prog 43 #[.agg #[.slice A ns.length c], chv C A' c'] w fun e w' => Below w.heap.size w w' ∧ ∃ r, e = .returned (.tuple #[.agg #[.slice none 0 0], chv zC none 0, .iface 127 (.pointer (some ⟨r, 0, none⟩))]) ∧ w'.cell? ⟨r, 0, none⟩ = some (.int .i64 1) := by
 have hut := Tryz.underlying33
 have hutr := Tryz.underlying31
 have HTO := am (fun W (hW : Below w.heap.size w W) => (treeOk_calls A c ns W (Kd.C_below hC hW) hc hwf).mono (fun e w' h => (⟨by rw [h.1, treeOkI_eq, hno], h.2⟩ : e = .returned (.bool false) ∧ Below W.heap.size W w')))
 clear hC hc hwf hno
 go_enter Tryz.func43, Tryz.ntmps43
 go_wp2_with fail
 generalize hw1 : World.alloc (World.alloc (World.alloc (World.alloc w _) _) _) _ = w1
 have H1 := am (hw1 ▸ box_four w ns.length A c C A' c')
 have hb0 := blk_cell H1.out.2.1 0
 clear hw1
 go_wp2_with (first | (go_at_call 52; refine (HTO.out _ H1.out.1).mono ?_; rintro e w2 ⟨rfl, hb2⟩; have H2 := am hb2; clear hb2 hb0) | (go_at_call 75; refine (deny2 1 _).mono ?_; rintro e w3 ⟨r, rfl, hr, hb3, hc3⟩; have HB3 := am (below_step H2.out hb3); have HR := am (And.intro hr hc3); have HY := am (blk_below H1.out.2.2.2.1 HB3.out); have HZ := am (blk_below H1.out.2.2.2.2.1 HB3.out); have hz0 := blk_cell HY.out 0; have hzf := blk_frozen HY.out 0; obtain ⟨z0, z1, z2, z3, z4, z5, z6, z7⟩ := cells8t HZ.out; have hzf8 := fun k => blk_frozen HZ.out k; clear hb3 hr hc3))
 generalize hw5 : World.setCell _ _ _ = w5
 have h5 := two_boxes (F := zC) HY.out HZ.out (by omega) hw5.symm
 have g0 := blk_cell h5.1 0
 obtain ⟨y0, y1, y2, y3, y4, y5, y6, y7⟩ := cells8t h5.2.1
 clear hw5 hz0 hzf z0 z1 z2 z3 z4 z5 z6 z7 hzf8
 have hr := HR.out
 have hb3 := HB3.out
 refine bodyPost_ret (v := .tuple #[.agg #[.slice none 0 0], chv zC none 0, .iface 127 (.pointer (some ⟨r, 0, none⟩))]) (by simp [results, Tryz.results43, go_sem, g0, y0, y1, y2, y3, y4, y5, y6, y7, hut, hutr]) rfl ⟨h5.2.2.2.2 _ _ (below_step H1.out.1 hb3) (by omega) (by omega), r, rfl, ?_⟩
 have hs1 := H1.out.2.2.2.2.2
 have hs2 := H2.out.size
 exact (World.cell?_of_block (w := w3) (h5.2.2.1 r (by omega) (by omega))).trans hr.2
theorem plot_calls (ns : List S95) (A : Option Addr) (c : Nat) (w : World) (hC : Kd.C k95 w A ns.length ns) (hc : ns.length ≤ c) (hok : treeOk ns = true) (hn : ∀ n ∈ ns, n.f3.length < 1000000000) :
  Calls Tryz.prog 59 #[.agg #[.slice A ns.length c]] w fun e w' => ∃ g w0 bs KV, e = .returned (.pointer (some ⟨g, 0, none⟩)) ∧ Below w.heap.size w w' ∧ w.heap.size ≤ w0.heap.size ∧ Plot ns w0 w' g w0.heap.size bs KV := by
 obtain ⟨h1, h2, h3, h4, h5⟩ := treeOk_parts hok
 obtain ⟨ad, A3, c3, rfl, _⟩ := at_T95 hC ((0 : Nat) : Int) (by omega) (by omega)
 refine (newGarden_calls ns ad c w hC hc h3 h2 h4 (treeOk_nodup hok)).mono (fun e w' h => ?_)
 obtain ⟨g, bs, KV, w0, he, hb, hb0, hb1, hg⟩ := h
 exact ⟨g, w0, bs, KV, he, hb, hb0.size, ⟨GMap.of hg, hg.grown, hb1, rfl, hg.at_, h4, h3, hn, h2, treeOk_nodup hok⟩⟩
def CodeEnd (w : World) (k : Int) (e : Ending) (w' : World) : Prop := Below w.heap.size w w' ∧ ∃ f r, e = .returned (.tuple #[.agg #[.slice none 0 0], chv zC none 0, .iface 123 (.pointer (some ⟨f, 0, none⟩))]) ∧ w'.cell? ⟨f, 1, none⟩ = some (.iface 127 (.pointer (some ⟨r, 0, none⟩))) ∧ w'.cell? ⟨r, 0, none⟩ = some (.int .i64 k)
theorem change_code (T kl : Nat) (ns : List S95) (A : Option Addr) (c : Nat) (C : Chg) (A' : Option Addr) (c' : Nat) (w : World) (hC : Kd.C k95 w A ns.length ns) (hc : ns.length ≤ c) (hwf : ∀ n ∈ ns, n.f5 ≤ 9223372036854775807) (hok : treeOk ns = true) (hn : ∀ n ∈ ns, n.f3.length < 1000000000) (hT : actT C.f0 = T) (hml : ∀ w, (method 358 T (chv C A' c') "loop.example/g00011/impl.look").run Tryz.prog w = .ok (kl, chv C A' c') w) (hcl : ∀ args w, (callFunc kl args).run Tryz.prog w = .ok (.enter kl args) w) (k : Int)
  (hlook : ∀ W w0 g base bs KV, Below w.heap.size w W → Plot ns w0 W g base bs KV → Calls Tryz.prog kl #[chv C A' c', .pointer (some ⟨g, 0, none⟩)] W (LookEnd W (some k))) :
  Calls Tryz.prog 43 #[.agg #[.slice A ns.length c], chv C A' c'] w (CodeEnd w k) := by
 have hut := Tryz.underlying33
 have hutr := Tryz.underlying31
 have HTO := am (fun W (hW : Below w.heap.size w W) => (treeOk_calls A c ns W (Kd.C_below hC hW) hc hwf).mono (fun e w' h => (⟨by rw [h.1, treeOkI_eq, hok], h.2⟩ : e = .returned (.bool true) ∧ Below W.heap.size W w')))
 have HNG := am (fun W (hW : Below w.heap.size w W) => plot_calls ns A c W (Kd.C_below hC hW) hc hok hn)
 have HAO := am (fun W => (actOf_calls C A' c' W).mono (fun e w' h => (⟨by rw [h.1, hT], h.2⟩ : e = .returned (.iface T (chv C A' c')) ∧ Below W.heap.size W w')))
 have HLK := am hlook
 clear hC hc hwf hok hn hT hlook
 go_enter Tryz.func43, Tryz.ntmps43
 go_wp2_with fail
 generalize hw1 : World.alloc (World.alloc (World.alloc (World.alloc w _) _) _) _ = w1
 have H1 := am (hw1 ▸ box_four w ns.length A c C A' c')
 have hb0 := blk_cell H1.out.2.1 0
 clear hw1
 go_wp2_with (first | (go_at_call 52; refine (HTO.out _ H1.out.1).mono ?_; rintro e w2 ⟨rfl, hb2⟩; have H2 := am hb2; have HB2 := am (below_step H1.out.1 hb2); replace hb0 := blk_cell (blk_below H1.out.2.1 hb2) 0; clear hb2) | (go_at_call 59; refine (HNG.out _ HB2.out).mono ?_; rintro e w3 ⟨g, w0, bs, KV, rfl, hb3, hs3, hp3⟩; have H3 := am (And.intro hb3 (And.intro hs3 hp3)); obtain ⟨x0, x1, x2, x3, x4, x5, x6, x7⟩ := cells8t (blk_below H1.out.2.2.1 (below_step H2.out hb3)); clear hb3 hs3 hp3 hb0) | (go_at_call 76; refine (HAO.out _).mono ?_; rintro e w4 ⟨rfl, hb4⟩; have H4 := am hb4; clear hb4 x0 x1 x2 x3 x4 x5 x6 x7))
 clear hml hcl
 refine (HLK.out _ _ _ _ _ _ (below_step (below_step HB2.out H3.out.1) H4.out) (H3.out.2.2.below H4.out)).mono ?_
 rintro e w5 ⟨hb5, r, rfl, hr5, hc5⟩
 have HB5 := am (below_step (below_step (below_step H2.out H3.out.1) H4.out) hb5)
 have H5 := am (And.intro hr5 hc5)
 obtain ⟨x0, x1, x2, x3, x4, x5, x6, x7⟩ := cells8t (blk_below H1.out.2.2.1 HB5.out)
 have HY := am (blk_below H1.out.2.2.2.1 HB5.out)
 have HZ := am (blk_below H1.out.2.2.2.2.1 HB5.out)
 have hz0 := blk_cell HY.out 0
 have hzf := blk_frozen HY.out 0
 obtain ⟨z0, z1, z2, z3, z4, z5, z6, z7⟩ := cells8t HZ.out
 have hzf8 := fun k => blk_frozen HZ.out k
 clear hb5 hr5 hc5
 go_wp2_with fail
 go_cut [6] (fun v6 wc => v6 = .iface 123 (.pointer (some ⟨w5.heap.size, 0, none⟩)) ∧ Aside0 (FE w5 wc (w.heap.size + 1 + 1) (w.heap.size + 1 + 1 + 1) (.cells #[.int .i64 C.f0, .iface 127 (.pointer (some ⟨r, 0, none⟩))] 125)))
 case first =>
  generalize hfo : (Obj.cells #[.int .i64 C.f0, .iface 127 (.pointer (some ⟨r, 0, none⟩))] 125) = fo
  have hal : Below w5.heap.size w5 (w5.alloc fo) := (Below.refl _ w5).alloc (Nat.le_refl _) _
  have HY6 := am (blk_below HY.out hal)
  have HZ6 := am (blk_below HZ.out hal)
  have HX6 := am (blk_below (blk_below H1.out.2.2.1 HB5.out) hal)
  subst hfo
  have a0 := blk_cell HY6.out 0
  have af := blk_frozen HY6.out 0
  obtain ⟨b0, b1, b2, b3, b4, b5, b6, b7⟩ := cells8t HZ6.out
  have bf := fun k => blk_frozen HZ6.out k
  have d0 := (cells8t HX6.out).1
  clear hal
  have HZ7 := am (show ((w5.setCell ⟨w.heap.size + 1 + 1, 0, none⟩ (.slice none 0 0)).alloc (.cells #[.int .i64 C.f0, .iface 127 (.pointer (some ⟨r, 0, none⟩))] 125)).heap[w.heap.size + 1 + 1 + 1]? = some (mbox8 zC none 0 33) from by
   obtain ⟨a1, a2, a3, a4⟩ := set_block (j := 0) (v := .slice none 0 0) rfl HY.out
   exact blk_below ((a2 _ (by omega)).trans HZ.out) ((Below.refl _ _).alloc (Nat.le_refl _) _))
  obtain ⟨p0, p1, p2, p3, p4, p5, p6, p7⟩ := cells8t HZ7.out
  have pf := fun k => blk_frozen HZ7.out k
  go_region
  ·go_wp2
   go_meet
   case rel => exact ⟨rfl, ⟨fe1 HY.out HZ.out (by omega) rfl rfl rfl⟩⟩
  ·go_wp2
   go_meet
   case rel => exact ⟨rfl, ⟨fe2 HY.out HZ.out (by omega) rfl rfl rfl⟩⟩
  ·go_wp2
   go_meet
   case rel => exact ⟨rfl, ⟨fe3 HY.out HZ.out (by omega) rfl rfl⟩⟩
 case rest =>
  obtain ⟨rfl, HF⟩ := hcut
  clear x0 x1 x2 x3 x4 x5 x6 x7 hz0 hzf z0 z1 z2 z3 z4 z5 z6 z7 hzf8
  have g0 := blk_cell HF.out.cy 0
  obtain ⟨y0, y1, y2, y3, y4, y5, y6, y7⟩ := cells8t HF.out.cz
  go_wp2_with fail
  have hs1 := H1.out.2.2.2.2.2
  have hs5 := HB5.out.size
  have hr5 := H5.out.1
  have hs4 := H4.out.size
  have hs3 := H3.out.1.size
  have hs2 := H2.out.size
  refine bodyPost_ret (v := .tuple #[.agg #[.slice none 0 0], chv zC none 0, .iface 123 (.pointer (some ⟨w5.heap.size, 0, none⟩))]) (by simp [results, Tryz.results43, go_sem, g0, y0, y1, y2, y3, y4, y5, y6, y7, hut, hutr]) rfl (show CodeEnd _ _ _ _ from by
   unfold CodeEnd
   refine ⟨HF.out.below _ _ (below_step H1.out.1 HB5.out) (by omega) (by omega), w5.heap.size, r, rfl, blk_cell HF.out.new 1, ?_⟩
   have hrl := World.block_lt_of_cell? w5 _ H5.out.2
   exact (World.cell?_of_block (w := w5) (HF.out.far r hrl (by omega) (by omega))).trans H5.out.2)
end Go.Proofs.YthjgohbkpjhkeaaGreatDoor.Impl
set_option maxHeartbeats 4000000
set_option maxRecDepth 100000
namespace Go.Proofs.YthjgohbkpjhkeaaGreatDoor.Impl
open Go.RowKit Go.Proofs.YthjgohbkpjhkeaaGreatDoorW.PrintWords Go.Proofs.YthjgohbkpjhkeaaGreatDoorW.PrintLast Go.Proofs.YthjgohbkpjhkeaaGreatDoorW.PrintMore Go.Proofs.YthjgohbkpjhkeaaGreatDoor.PFnExactDo Go.Proofs.YthjgohbkpjhkeaaGreatDoor.MapLib Go.Proofs.YthjgohbkpjhkeaaGreatDoor.FireSpec Go.Proofs.YthjgohbkpjhkeaaGreatDoor.Tr Go.Proofs.YthjgohbkpjhkeaaGreatDoor.Fo
def DoneEnd (w : World) (R : Chg) (L : List S95) (e : Ending) (w' : World) : Prop :=
 Below w.heap.size w w' ∧ ∃ A1 c1 A2 c2 M, e = .returned (.tuple #[.agg #[.slice A1 L.length c1], chv R A2 c2, .nilIface]) ∧ Kd.S k95 95 w' w.heap.size (fun b => M ≤ b) (.slice A1 L.length c1) L ∧ Kd.S k95 95 w' w.heap.size (fun b => b < M) (.slice A2 R.f7.length c2) R.f7
structure FD (w wf : World) (y z n : Nat) (A : Option Addr) (c : Nat) (F : Chg) (A3 : Option Addr) (c3 : Nat) : Prop where
 cy : wf.heap[y]? = some (boxT n A c)
 cz : wf.heap[z]? = some (mbox8 F A3 c3 33)
 far : ∀ k, k ≠ y → k ≠ z → wf.heap[k]? = w.heap[k]?
 size : wf.heap.size = w.heap.size
 below : ∀ B w0, Below B w0 w → B ≤ y → B ≤ z → Below B w0 wf
theorem fd1 {w3 w6 wf : World} {y z n : Nat} {A0 A A2 A3 : Option Addr} {c0 c c2 c3 n0 : Nat} {F0 F : Chg} (hY : w3.heap[y]? = some (boxT n0 A0 c0)) (hZ : w3.heap[z]? = some (mbox8 F0 A2 c2 33)) (hne : y ≠ z) (h : wf = w6.drew)
  (hw6 : w6 = (((((((((w3.setCell ⟨y, 0, none⟩ (.slice A n c)).setCell ⟨z, 0, none⟩ (.int .i64 F.f0)).setCell ⟨z, 1, none⟩ (.int .i64 F.f1)).setCell ⟨z, 2, none⟩ (.int .i64 F.f2)).setCell ⟨z, 3, none⟩ (.int .i64 F.f3)).setCell ⟨z, 4, none⟩ (.string F.f4)).setCell ⟨z, 5, none⟩ (.string F.f5)).setCell ⟨z, 6, none⟩ (.int .i64 F.f6)).setCell ⟨z, 7, none⟩ (.slice A3 F.f7.length c3))) : FD w3 wf y z n A c F A3 c3 := by
 obtain ⟨a1, a2, a3, a4, a5⟩ := two_boxes hY hZ hne hw6
 subst h
 exact ⟨a1, a2, a3, a4, fun B w0 h1 h2 h3 => (a5 B w0 h1 h2 h3).drew⟩
theorem change_done (T kl : Nat) (ns : List S95) (A : Option Addr) (c : Nat) (C : Chg) (A' : Option Addr) (c' : Nat) (w : World) (hC : Kd.C k95 w A ns.length ns) (hc : ns.length ≤ c) (hwf : ∀ n ∈ ns, n.f5 ≤ 9223372036854775807) (hok : treeOk ns = true) (hn : ∀ n ∈ ns, n.f3.length < 1000000000) (hT : actT C.f0 = T) (hml : ∀ w, (method 358 T (chv C A' c') "loop.example/g00011/impl.look").run Tryz.prog w = .ok (kl, chv C A' c') w) (hcl : ∀ args w, (callFunc kl args).run Tryz.prog w = .ok (.enter kl args) w) (kd : Nat) (hmd : ∀ w, (method 358 T (chv C A' c') "loop.example/g00011/impl.do").run Tryz.prog w = .ok (kd, chv C A' c') w) (hcd : ∀ args w, (callFunc kd args).run Tryz.prog w = .ok (.enter kd args) w) (R : Chg) (L : List S95) (hLn : L.length ≤ 1000000000) (hLwf : ∀ n ∈ L, n.f5 ≤ 9223372036854775807)
  (hlook : ∀ W w0 g base bs KV, Below w.heap.size w W → Plot ns w0 W g base bs KV → Calls Tryz.prog kl #[chv C A' c', .pointer (some ⟨g, 0, none⟩)] W (LookEnd W none))
  (hdo : ∀ W w0 g base bs KV, Below w.heap.size w W → Plot ns w0 W g base bs KV → Calls Tryz.prog kd #[chv C A' c', .pointer (some ⟨g, 0, none⟩)] W (DoEnd W g base (bs.getD 0 0) R L)) (hLok : treeOk L = true) :
  Calls Tryz.prog 43 #[.agg #[.slice A ns.length c], chv C A' c'] w (DoneEnd w R L) := by
 have hut := Tryz.underlying33
 have hutr := Tryz.underlying31
 have HTO := am (fun W (hW : Below w.heap.size w W) => (treeOk_calls A c ns W (Kd.C_below hC hW) hc hwf).mono (fun e w' h => (⟨by rw [h.1, treeOkI_eq, hok], h.2⟩ : e = .returned (.bool true) ∧ Below W.heap.size W w')))
 have HNG := am (fun W (hW : Below w.heap.size w W) => plot_calls ns A c W (Kd.C_below hC hW) hc hok hn)
 have HAO := am (fun W => (actOf_calls C A' c' W).mono (fun e w' h => (⟨by rw [h.1, hT], h.2⟩ : e = .returned (.iface T (chv C A' c')) ∧ Below W.heap.size W w')))
 have HLK := am hlook
 have HDO := am hdo
 have HTL := am (fun A8 c8 W (hC8 : Kd.C k95 W A8 L.length L) (hc8 : L.length ≤ c8) => (treeOk_calls A8 c8 L W hC8 hc8 hLwf).mono (fun e w' h => (⟨by rw [h.1, treeOkI_eq, hLok], h.2⟩ : e = .returned (.bool true) ∧ Below W.heap.size W w')))
 have HLN := am hLn
 clear hC hc hwf hok hn hT hlook hdo hLok hLn hLwf
 go_enter Tryz.func43, Tryz.ntmps43
 go_wp2_with fail
 generalize hw1 : World.alloc (World.alloc (World.alloc (World.alloc w _) _) _) _ = w1
 have H1 := am (hw1 ▸ box_four w ns.length A c C A' c')
 have hb0 := blk_cell H1.out.2.1 0
 clear hw1
 go_wp2_with (first | (go_at_call 52; refine (HTO.out _ H1.out.1).mono ?_; rintro e w2 ⟨rfl, hb2⟩; have H2 := am hb2; have HB2 := am (below_step H1.out.1 hb2); replace hb0 := blk_cell (blk_below H1.out.2.1 hb2) 0; clear hb2) | (go_at_call 59; refine (HNG.out _ HB2.out).mono ?_; rintro e w3 ⟨g, w0, bs, KV, rfl, hb3, hs3, hp3⟩; have H3 := am (And.intro hb3 (And.intro hs3 hp3)); obtain ⟨x0, x1, x2, x3, x4, x5, x6, x7⟩ := cells8t (blk_below H1.out.2.2.1 (below_step H2.out hb3)); clear hb3 hs3 hp3 hb0) | (go_at_call 76; refine (HAO.out _).mono ?_; rintro e w4 ⟨rfl, hb4⟩; have H4 := am hb4; clear hb4 x0 x1 x2 x3 x4 x5 x6 x7))
 refine (HLK.out _ _ _ _ _ _ (below_step (below_step HB2.out H3.out.1) H4.out) (H3.out.2.2.below H4.out)).mono ?_
 rintro e w5 ⟨hb5, rfl⟩
 have HB25 := am (below_step (below_step H3.out.1 H4.out) hb5)
 have HP5 := am ((H3.out.2.2.below H4.out).below hb5)
 clear hb5
 go_wp2_with fail
 clear hml hcl hmd hcd
 refine (HDO.out _ _ _ _ _ _ (below_step HB2.out HB25.out) HP5.out).mono ?_
 rintro e w6 ⟨A6, c6, x, k, rfl, hr6, hg6, hxb, hI6, hn6, hb6⟩
 have HB26 := am (HB25.out.trans (hb6 w2.heap.size H3.out.2.1))
 have HR6 := am (Kd.S_mono (Kd.S_bound hr6) (fun k hk => hk.2.2.1))
 have HS56 := am (show w2.heap.size ≤ w5.heap.size from HB25.out.size)
 have HI6 := am (And.intro hI6 hn6)
 have HXB := am hxb
 rw [← hxb] at hg6
 obtain ⟨xb, hxb2⟩ : ∃ xb, xb = x.b := ⟨_, rfl⟩
 rw [← hxb2] at hg6
 have HX2 := am hxb2
 unfold ptr at hg6
 have hg7 : (w6.alloc (.cells #[.int .i64 R.f0, .int .i64 R.f1, .int .i64 R.f2, .int .i64 R.f3, .string R.f4, .string R.f5, .int .i64 R.f6, .slice A6 R.f7.length c6] 33)).cell? ⟨g, 0, none⟩ = some (.pointer (some ⟨xb, 0, none⟩)) := pw_cell_below ((Below.refl _ w6).alloc (Nat.le_refl _) _) hg6
 have HLS := am (show ∀ W, Below w6.heap.size w6 W → Calls Tryz.prog 77 #[.pointer (some ⟨xb, 0, none⟩), .slice none 0 0] W fun e w' => ∃ A8 c8, e = .returned (.slice A8 L.length c8) ∧ NodeRow w' W.heap.size (.slice A8 L.length c8) L ∧ Below W.heap.size W w' from fun W hW => by
  have hsz : size k + 1 = L.length := by rw [← hn6, nodesOf_length]; simp [size]
  have h1 := list_calls w6 w0.heap.size W.heap.size hW.size (size k + 1) x k (.pointer none) 0 W (.slice none 0 0) [] (by omega) (hI6.below hW) hW (Kd.S_nil _ _ _ _ _) (Nat.le_refl _) (by have := HLN.out; simp; omega)
  rw [hxb2]
  refine h1.mono (fun e w' he => ?_)
  obtain ⟨v', rfl, hr, hk, hb, _⟩ := he
  rw [List.nil_append, hn6] at hr
  obtain ⟨A8, c8, rfl⟩ := Kd.S_slice hr
  exact ⟨A8, c8, rfl, hr, hb _ (Nat.le_refl _)⟩)
 have HAL := am (show Below w6.heap.size w6 (w6.alloc (.cells #[.int .i64 R.f0, .int .i64 R.f1, .int .i64 R.f2, .int .i64 R.f3, .string R.f4, .string R.f5, .int .i64 R.f6, .slice A6 R.f7.length c6] 33)) ∧ (w6.alloc (.cells #[.int .i64 R.f0, .int .i64 R.f1, .int .i64 R.f2, .int .i64 R.f3, .string R.f4, .string R.f5, .int .i64 R.f6, .slice A6 R.f7.length c6] 33)).heap[w6.heap.size]? = some (mbox8 R A6 c6 33) ∧ (w6.alloc (.cells #[.int .i64 R.f0, .int .i64 R.f1, .int .i64 R.f2, .int .i64 R.f3, .string R.f4, .string R.f5, .int .i64 R.f6, .slice A6 R.f7.length c6] 33)).heap.size = w6.heap.size + 1 from ⟨(Below.refl _ w6).alloc (Nat.le_refl _) _, blk_newest w6 _, by simp⟩)
 clear hr6 hxb hI6 hn6 hb6 hxb2 hg6
 go_wp2_with (first | (go_at_call 77; refine (HLS.out _ HAL.out.1).mono ?_; rintro e w8 ⟨A8, c8, rfl, hr8, hb8⟩; have HB8 := am hb8; have HR8 := am hr8; clear hr8 hb8 hg7) | (go_at_call 52; refine (HTL.out A8 c8 _ (Kd.C_alloc (Kd.S_reads' HR8.out).2.2 _) (Kd.S_reads' HR8.out).2.1).mono ?_; rintro e w10 ⟨rfl, hb10⟩; have HB10 := am hb10; clear hb10))
 have hb8a : Below w8.heap.size w8 (w8.alloc (boxT L.length A8 c8)) := (Below.refl _ w8).alloc (Nat.le_refl _) _
 have HB68 := am (below_step HAL.out.1 HB8.out)
 have HB8x := am (below_step hb8a HB10.out)
 have HBA := am (below_step (below_step (below_step H2.out HB26.out) HB68.out) HB8x.out)
 have HBT := am (show w10.heap[w8.heap.size]? = some (boxT L.length A8 c8) from blk_below (blk_newest w8 _) HB10.out)
 have HRC := am (show w10.heap[w6.heap.size]? = some (mbox8 R A6 c6 33) from blk_below (blk_below HAL.out.2.1 HB8.out) HB8x.out)
 have HY := am (blk_below H1.out.2.2.2.1 HBA.out)
 have HZ := am (blk_below H1.out.2.2.2.2.1 HBA.out)
 have HSZ := am (show w1.heap.size = w.heap.size + 4 ∧ w1.heap.size ≤ w2.heap.size ∧ w2.heap.size ≤ w6.heap.size ∧ w6.heap.size + 1 ≤ w8.heap.size ∧ w8.heap.size + 1 ≤ w10.heap.size ∧ w2.heap.size ≤ w5.heap.size from ⟨H1.out.2.2.2.2.2, H2.out.size, HB26.out.size, by have := HB8.out.size; rw [HAL.out.2.2] at this; exact this, by have := HB10.out.size; simpa using this, HS56.out⟩)
 clear hb8a
 have t0 := blk_cell HBT.out 0
 obtain ⟨x0, x1, x2, x3, x4, x5, x6, x7⟩ := cells8t HRC.out
 have hz0 := blk_cell HY.out 0
 have hzf := blk_frozen HY.out 0
 obtain ⟨z0, z1, z2, z3, z4, z5, z6, z7⟩ := cells8t HZ.out
 have hzf8 := fun k => blk_frozen HZ.out k
 go_cut [6] (fun v6 wc => v6 = .nilIface ∧ Aside0 (FD w10 wc (w.heap.size + 1 + 1) (w.heap.size + 1 + 1 + 1) L.length A8 c8 R A6 c6))
 case first =>
  have HRY := am (show (w10.setCell ⟨w.heap.size + 1 + 1, 0, none⟩ (.slice A8 L.length c8)).heap[w6.heap.size]? = some (mbox8 R A6 c6 33) ∧ (w10.setCell ⟨w.heap.size + 1 + 1, 0, none⟩ (.slice A8 L.length c8)).heap[w.heap.size + 1 + 1 + 1]? = some (mbox8 zC none 0 33) from by
   obtain ⟨a1, a2, a3, a4⟩ := set_block (j := 0) (v := .slice A8 L.length c8) rfl HY.out
   exact ⟨(a2 _ (by have := HSZ.out; omega)).trans HRC.out, (a2 _ (by omega)).trans HZ.out⟩)
  obtain ⟨p0, p1, p2, p3, p4, p5, p6, p7⟩ := cells8t HRY.out.1
  obtain ⟨q0, q1, q2, q3, q4, q5, q6, q7⟩ := cells8t HRY.out.2
  have qf := fun k => blk_frozen HRY.out.2 k
  have HRZ := am (show (((((((((w10.setCell ⟨w.heap.size + 1 + 1 + 1, 0, none⟩ (.int .i64 R.f0)).setCell ⟨w.heap.size + 1 + 1 + 1, 1, none⟩ (.int .i64 R.f1)).setCell ⟨w.heap.size + 1 + 1 + 1, 2, none⟩ (.int .i64 R.f2)).setCell ⟨w.heap.size + 1 + 1 + 1, 3, none⟩ (.int .i64 R.f3)).setCell ⟨w.heap.size + 1 + 1 + 1, 4, none⟩ (.string R.f4)).setCell ⟨w.heap.size + 1 + 1 + 1, 5, none⟩ (.string R.f5)).setCell ⟨w.heap.size + 1 + 1 + 1, 6, none⟩ (.int .i64 R.f6)).setCell ⟨w.heap.size + 1 + 1 + 1, 7, none⟩ (.slice A6 R.f7.length c6))).heap[w8.heap.size]? = some (boxT L.length A8 c8) ∧ (((((((((w10.setCell ⟨w.heap.size + 1 + 1 + 1, 0, none⟩ (.int .i64 R.f0)).setCell ⟨w.heap.size + 1 + 1 + 1, 1, none⟩ (.int .i64 R.f1)).setCell ⟨w.heap.size + 1 + 1 + 1, 2, none⟩ (.int .i64 R.f2)).setCell ⟨w.heap.size + 1 + 1 + 1, 3, none⟩ (.int .i64 R.f3)).setCell ⟨w.heap.size + 1 + 1 + 1, 4, none⟩ (.string R.f4)).setCell ⟨w.heap.size + 1 + 1 + 1, 5, none⟩ (.string R.f5)).setCell ⟨w.heap.size + 1 + 1 + 1, 6, none⟩ (.int .i64 R.f6)).setCell ⟨w.heap.size + 1 + 1 + 1, 7, none⟩ (.slice A6 R.f7.length c6))).heap[w.heap.size + 1 + 1]? = some (boxT 0 none 0) from by
   obtain ⟨a1, a2, a3, a4⟩ := set8 (C := R) (A := A6) (c := c6) HZ.out rfl
   exact ⟨(a2 _ (by have := HSZ.out; omega)).trans HBT.out, (a2 _ (by omega)).trans HY.out⟩)
  have r0 := blk_cell HRZ.out.1 0
  have s0 := blk_cell HRZ.out.2 0
  have sf := blk_frozen HRZ.out.2 0
  go_region
  go_wp2
  go_meet
  case rel => exact ⟨rfl, ⟨fd1 HY.out HZ.out (by omega) rfl rfl⟩⟩
 case rest =>
  obtain ⟨rfl, HF⟩ := hcut
  clear t0 x0 x1 x2 x3 x4 x5 x6 x7 hz0 hzf z0 z1 z2 z3 z4 z5 z6 z7 hzf8
  have g0 := blk_cell HF.out.cy 0
  obtain ⟨y0, y1, y2, y3, y4, y5, y6, y7⟩ := cells8t HF.out.cz
  go_wp2_with fail
  have hsz := HSZ.out
  refine bodyPost_ret (v := .tuple #[.agg #[.slice A8 L.length c8], chv R A6 c6, .nilIface]) (by simp [results, Tryz.results43, go_sem, g0, y0, y1, y2, y3, y4, y5, y6, y7, hut, hutr]) rfl (show DoneEnd _ _ _ _ _ from ?_)
  refine ⟨HF.out.below _ _ (below_step H1.out.1 HBA.out) (by omega) (by omega), A8, c8, A6, c6, w6.heap.size + 1, rfl, ?_, ?_⟩
  ·have h1 := Kd.S_below HR8.out (below_step ((Below.refl _ w8).alloc (Nat.le_refl _) _) HB10.out)
   rw [HAL.out.2.2] at h1
   have h2 := Kd.S_move (w1 := wc) (Kd.S_bound h1) (fun k hk => HF.out.far k (by have := hk.2.1; omega) (by have := hk.2.1; omega))
   exact Kd.S_lower (Kd.S_mono h2 (fun k hk => hk.2.1)) (by omega)
  ·have h1 := Kd.S_below HR6.out (below_step HB68.out HB8x.out)
   have h2 := Kd.S_move (w1 := wc) (Kd.S_bound h1) (fun k hk => HF.out.far k (by have := hk.2.1; omega) (by have := hk.2.1; omega))
   exact Kd.S_lower (Kd.S_mono h2 (fun k hk => by have := hk.1; omega)) (by omega)
end Go.Proofs.YthjgohbkpjhkeaaGreatDoor.Impl
