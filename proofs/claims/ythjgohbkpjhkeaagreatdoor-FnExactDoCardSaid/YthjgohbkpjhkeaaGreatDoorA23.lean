/- Part 23 of the proof: DoChFour, DoMeth, DoCodes, DoActs. -/
import Derived.Test.YthjgohbkpjhkeaaGreatDoorA1
import Derived.Test.YthjgohbkpjhkeaaGreatDoorA22
set_option linter.unusedVariables false
set_option linter.unusedSimpArgs false
set_option maxHeartbeats 4000000
set_option maxRecDepth 100000
namespace Go.Proofs.YthjgohbkpjhkeaaGreatDoor.Impl
open Go.RowKit Go.Proofs.YthjgohbkpjhkeaaGreatDoorW.PrintWords Go.Proofs.YthjgohbkpjhkeaaGreatDoorW.PrintLast Go.Proofs.YthjgohbkpjhkeaaGreatDoorW.PrintMore Go.Proofs.YthjgohbkpjhkeaaGreatDoor.PFnExactDo Go.Proofs.YthjgohbkpjhkeaaGreatDoor.MapLib Go.Proofs.YthjgohbkpjhkeaaGreatDoor.FireSpec Go.Proofs.YthjgohbkpjhkeaaGreatDoor.Tr Go.Proofs.YthjgohbkpjhkeaaGreatDoor.Fo
structure Zed (W : World) (x y z : Nat) (C : Chg) (A' : Option Addr) (c' : Nat) : Prop where
 bx : W.heap[x]? = some (mbox8 C A' c' 33)
 by_ : W.heap[y]? = some (boxT 0 none 0)
 bz : W.heap[z]? = some (mbox8 zC none 0 33)
section
variable {W W' : World} {x y z : Nat} {C : Chg} {A' : Option Addr} {c' : Nat}
theorem Zed.below (h : Zed W x y z C A' c') (hb : Below W.heap.size W W') : Zed W' x y z C A' c' := ⟨blk_below h.bx hb, blk_below h.by_ hb, blk_below h.bz hb⟩
theorem Zed.al (h : Zed W x y z C A' c') (o : Obj) : Zed (W.alloc o) x y z C A' c' := h.below ((Below.refl _ _).alloc (Nat.le_refl _) _)
theorem Zed.sy (h : Zed W x y z C A' c') (h1 : x ≠ y) (h2 : y ≠ z) (hW : W' = W.setCell ⟨y, 0, none⟩ (.slice none 0 0)) : Zed W' x y z C A' c' ∧ (∀ k, k ≠ y → W'.heap[k]? = W.heap[k]?) ∧ W'.heap.size = W.heap.size ∧ ∀ B w0, Below B w0 W → B ≤ y → Below B w0 W' := by
 obtain ⟨a1, a2, a3, a4⟩ := set_block hW h.by_
 exact ⟨⟨(a2 x h1).trans h.bx, a1, (a2 z (fun e => h2 e.symm)).trans h.bz⟩, a2, a3, a4⟩
theorem Zed.sz (h : Zed W x y z C A' c') (h1 : x ≠ z) (h2 : y ≠ z) (hW : W' = ((((((((W.setCell ⟨z, 0, none⟩ (.int .i64 0)).setCell ⟨z, 1, none⟩ (.int .i64 0)).setCell ⟨z, 2, none⟩ (.int .i64 0)).setCell ⟨z, 3, none⟩ (.int .i64 0)).setCell ⟨z, 4, none⟩ (.string ⟨#[]⟩)).setCell ⟨z, 5, none⟩ (.string ⟨#[]⟩)).setCell ⟨z, 6, none⟩ (.int .i64 0)).setCell ⟨z, 7, none⟩ (.slice none 0 0))) : Zed W' x y z C A' c' ∧ (∀ k, k ≠ z → W'.heap[k]? = W.heap[k]?) ∧ W'.heap.size = W.heap.size ∧ ∀ B w0, Below B w0 W → B ≤ z → Below B w0 W' := by
 obtain ⟨a1, a2, a3, a4⟩ := set8 (C := zC) (A := none) (c := 0) h.bz hW
 exact ⟨⟨(a2 x h1).trans h.bx, (a2 y h2).trans h.by_, a1⟩, a2, a3, a4⟩
theorem Zed.x0 (h : Zed W x y z C A' c') : W.cell? ⟨x, 0, none⟩ = some (.int .i64 C.f0) := (cells8t h.bx).1
end
section
variable {w5 wf : World} {y z : Nat} {o : Obj} (hY : w5.heap[y]? = some (boxT 0 none 0)) (hZ : w5.heap[z]? = some (mbox8 zC none 0 33)) (hne : y ≠ z)
include hY hZ hne
theorem ge1 {w6 wa : World} (h : wf = w6) (hwa : wa = w5.alloc o) (hw6 : w6 = (((((((((wa.setCell ⟨y, 0, none⟩ (.slice none 0 0)).setCell ⟨z, 0, none⟩ (.int .i64 0)).setCell ⟨z, 1, none⟩ (.int .i64 0)).setCell ⟨z, 2, none⟩ (.int .i64 0)).setCell ⟨z, 3, none⟩ (.int .i64 0)).setCell ⟨z, 4, none⟩ (.string ⟨#[]⟩)).setCell ⟨z, 5, none⟩ (.string ⟨#[]⟩)).setCell ⟨z, 6, none⟩ (.int .i64 0)).setCell ⟨z, 7, none⟩ (.slice none 0 0))) : FE w5 wf y z o := by
 have hal : Below w5.heap.size w5 wa := by rw [hwa]; exact (Below.refl _ w5).alloc (Nat.le_refl _) _
 have hne1 : wa.heap[w5.heap.size]? = some o := by rw [hwa]; exact blk_newest w5 o
 have hB : ∀ B w0, Below B w0 w5 → B ≤ y → Below B w0 wa := fun B w0 h1 h2 => by
  have hy := blk_lt hY
  rw [hwa]
  exact h1.alloc (by omega) o
 clear hwa
 obtain ⟨a1, a2, a3, a4, a5⟩ := two_boxes (F := zC) (blk_below hY hal) (blk_below hZ hal) hne hw6 (n := 0) (A := none) (c := 0) (A3 := none) (c3 := 0)
 have hy := blk_lt hY
 have hz := blk_lt hZ
 clear hw6
 subst h
 exact ⟨a1, a2, (a3 _ (by omega) (by omega)).trans hne1, fun k h1 h2 h3 => (a3 k h2 h3).trans (hal.block k h1), fun B w0 h1 h2 h3 => a5 B w0 (hB B w0 h1 h2) h2 h3⟩
theorem ge2 {w6 wa : World} (h : wf = w6) (hwa : wa = (w5.setCell ⟨y, 0, none⟩ (.slice none 0 0)).alloc o) (hw6 : w6 = ((((((((wa.setCell ⟨z, 0, none⟩ (.int .i64 0)).setCell ⟨z, 1, none⟩ (.int .i64 0)).setCell ⟨z, 2, none⟩ (.int .i64 0)).setCell ⟨z, 3, none⟩ (.int .i64 0)).setCell ⟨z, 4, none⟩ (.string ⟨#[]⟩)).setCell ⟨z, 5, none⟩ (.string ⟨#[]⟩)).setCell ⟨z, 6, none⟩ (.int .i64 0)).setCell ⟨z, 7, none⟩ (.slice none 0 0))) : FE w5 wf y z o := by
 obtain ⟨wb, hwb⟩ : ∃ wb, wb = w5.setCell ⟨y, 0, none⟩ (.slice none 0 0) := ⟨_, rfl⟩
 rw [← hwb] at hwa
 obtain ⟨b1, b2, b3, b4⟩ := set_block hwb hY
 have hal : Below wb.heap.size wb wa := by rw [hwa]; exact (Below.refl _ _).alloc (Nat.le_refl _) _
 have hne1 : wa.heap[wb.heap.size]? = some o := by rw [hwa]; exact blk_newest wb o
 have hB : ∀ B w0, Below B w0 wb → B ≤ wb.heap.size → Below B w0 wa := fun B w0 h1 h2 => by rw [hwa]; exact h1.alloc h2 o
 have hy := blk_lt hY
 have hz := blk_lt hZ
 clear hwa
 obtain ⟨a1, a2, a3, a4⟩ := set8 (C := zC) (A := none) (c := 0) (blk_below ((b2 z (fun e => hne e.symm)).trans hZ) hal) hw6
 clear hw6 hwb
 subst h
 rw [b3] at hne1
 exact ⟨(a2 y hne).trans (blk_below b1 hal), a1, (a2 _ (by omega)).trans hne1, fun k h1 h2 h3 => (a2 k h3).trans ((hal.block k (by omega)).trans (b2 k h2)), fun B w0 h1 h2 h3 => a4 _ _ (hB _ _ (b4 _ _ h1 h2) (by omega)) h3⟩
theorem ge3 {w6 : World} (h : wf = w6.alloc o) (hw6 : w6 = (((((((((w5.setCell ⟨y, 0, none⟩ (.slice none 0 0)).setCell ⟨z, 0, none⟩ (.int .i64 0)).setCell ⟨z, 1, none⟩ (.int .i64 0)).setCell ⟨z, 2, none⟩ (.int .i64 0)).setCell ⟨z, 3, none⟩ (.int .i64 0)).setCell ⟨z, 4, none⟩ (.string ⟨#[]⟩)).setCell ⟨z, 5, none⟩ (.string ⟨#[]⟩)).setCell ⟨z, 6, none⟩ (.int .i64 0)).setCell ⟨z, 7, none⟩ (.slice none 0 0))) : FE w5 wf y z o := by
 obtain ⟨a1, a2, a3, a4, a5⟩ := two_boxes (F := zC) hY hZ hne hw6 (n := 0) (A := none) (c := 0) (A3 := none) (c3 := 0)
 have hy := blk_lt hY
 have hz := blk_lt hZ
 clear hw6
 have hal : Below w6.heap.size w6 (w6.alloc o) := (Below.refl _ _).alloc (Nat.le_refl _) _
 subst h
 refine ⟨blk_below a1 hal, blk_below a2 hal, ?_, fun k h1 h2 h3 => (hal.block k (by omega)).trans (a3 k h2 h3), fun B w0 h1 h2 h3 => (a5 B w0 h1 h2 h3).alloc (by omega) o⟩
 have := blk_newest w6 o
 rw [a4] at this
 exact this
end
theorem change_four (T kl : Nat) (ns : List S95) (A : Option Addr) (c : Nat) (C : Chg) (A' : Option Addr) (c' : Nat) (w : World) (hC : Kd.C k95 w A ns.length ns) (hc : ns.length ≤ c) (hwf : ∀ n ∈ ns, n.f5 ≤ 9223372036854775807) (hok : treeOk ns = true) (hn : ∀ n ∈ ns, n.f3.length < 1000000000) (hT : actT C.f0 = T) (hml : ∀ w, (method 358 T (chv C A' c') "loop.example/g00011/impl.look").run Tryz.prog w = .ok (kl, chv C A' c') w) (hcl : ∀ args w, (callFunc kl args).run Tryz.prog w = .ok (.enter kl args) w) (kd : Nat) (hmd : ∀ w, (method 358 T (chv C A' c') "loop.example/g00011/impl.do").run Tryz.prog w = .ok (kd, chv C A' c') w) (hcd : ∀ args w, (callFunc kd args).run Tryz.prog w = .ok (.enter kd args) w) (R : Chg) (L : List S95) (hLn : L.length ≤ 1000000000) (hLwf : ∀ n ∈ L, n.f5 ≤ 9223372036854775807)
  (hlook : ∀ W w0 g base bs KV, Below w.heap.size w W → Plot ns w0 W g base bs KV → Calls Tryz.prog kl #[chv C A' c', .pointer (some ⟨g, 0, none⟩)] W (LookEnd W none))
  (hdo : ∀ W w0 g base bs KV, Below w.heap.size w W → Plot ns w0 W g base bs KV → Calls Tryz.prog kd #[chv C A' c', .pointer (some ⟨g, 0, none⟩)] W (DoEnd W g base (bs.getD 0 0) R L)) (hLok : treeOk L = false) :
  Calls Tryz.prog 43 #[.agg #[.slice A ns.length c], chv C A' c'] w (CodeEnd w 4) := by
 have hut := Tryz.underlying33
 have hutr := Tryz.underlying31
 have HTO := am (fun W (hW : Below w.heap.size w W) => (treeOk_calls A c ns W (Kd.C_below hC hW) hc hwf).mono (fun e w' h => (⟨by rw [h.1, treeOkI_eq, hok], h.2⟩ : e = .returned (.bool true) ∧ Below W.heap.size W w')))
 have HNG := am (fun W (hW : Below w.heap.size w W) => plot_calls ns A c W (Kd.C_below hC hW) hc hok hn)
 have HAO := am (fun W => (actOf_calls C A' c' W).mono (fun e w' h => (⟨by rw [h.1, hT], h.2⟩ : e = .returned (.iface T (chv C A' c')) ∧ Below W.heap.size W w')))
 have HLK := am hlook
 have HDO := am hdo
 have HTL := am (fun A8 c8 W (hC8 : Kd.C k95 W A8 L.length L) (hc8 : L.length ≤ c8) => (treeOk_calls A8 c8 L W hC8 hc8 hLwf).mono (fun e w' h => (⟨by rw [h.1, treeOkI_eq, hLok], h.2⟩ : e = .returned (.bool false) ∧ Below W.heap.size W w')))
 have HLN := am hLn
 clear hC hc hwf hok hn hT hlook hdo hLok hLn hLwf
 go_enter Tryz.func43, Tryz.ntmps43
 go_wp2_with fail
 generalize hw1 : World.alloc (World.alloc (World.alloc (World.alloc w _) _) _) _ = w1
 have H1 := am (hw1 ▸ box_four w ns.length A c C A' c')
 have hb0 := blk_cell H1.out.2.1 0
 clear hw1
 go_wp2_with (first | (go_at_call 52; refine (HTO.out _ H1.out.1).mono ?_; rintro e w2 ⟨rfl, hb2⟩; have H2 := am hb2; have HB2 := am (below_step H1.out.1 hb2); replace hb0 := blk_cell (blk_below H1.out.2.1 hb2) 0; clear hb2) | (go_at_call 59; refine (HNG.out _ HB2.out).mono ?_; rintro e w3 ⟨g, w0, bs, KV, rfl, hb3, hs3, hp3⟩; have H3 := am (And.intro hb3 (And.intro hs3 hp3)); obtain ⟨x0, x1, x2, x3, x4, x5, x6, x7⟩ := cells8t (blk_below H1.out.2.2.1 (below_step H2.out hb3)); clear hb3 hs3 hp3 hb0) | (go_at_call 76; refine (HAO.out _).mono ?_; rintro e w4 ⟨rfl, hb4⟩; have H4 := am hb4; clear hb4 x0 x1 x2 x3 x4 x5 x6 x7))
 refine (HLK.out _ _ _ _ _ _ (below_step (below_step HB2.out H3.out.1) H4.out) (H3.out.2.2.below H4.out)).mono ?_
 rintro e w5 ⟨hb5, rfl⟩
 have HB25 := am (below_step (below_step H3.out.1 H4.out) hb5)
 have HP5 := am ((H3.out.2.2.below H4.out).below hb5)
 clear hb5
 go_wp2_with fail
 clear hml hcl hmd hcd
 refine (HDO.out _ _ _ _ _ _ (below_step HB2.out HB25.out) HP5.out).mono ?_
 rintro e w6 ⟨A6, c6, x, k, rfl, hr6, hg6, hxb, hI6, hn6, hb6⟩
 have HB26 := am (HB25.out.trans (hb6 w2.heap.size H3.out.2.1))
 have HR6 := am (Kd.S_mono (Kd.S_bound hr6) (fun k hk => hk.2.2.1))
 have HS56 := am (show w2.heap.size ≤ w5.heap.size from HB25.out.size)
 have HI6 := am (And.intro hI6 hn6)
 have HXB := am hxb
 rw [← hxb] at hg6
 obtain ⟨xb, hxb2⟩ : ∃ xb, xb = x.b := ⟨_, rfl⟩
 rw [← hxb2] at hg6
 have HX2 := am hxb2
 unfold ptr at hg6
 have hg7 : (w6.alloc (.cells #[.int .i64 R.f0, .int .i64 R.f1, .int .i64 R.f2, .int .i64 R.f3, .string R.f4, .string R.f5, .int .i64 R.f6, .slice A6 R.f7.length c6] 33)).cell? ⟨g, 0, none⟩ = some (.pointer (some ⟨xb, 0, none⟩)) := pw_cell_below ((Below.refl _ w6).alloc (Nat.le_refl _) _) hg6
 have HLS := am (show ∀ W, Below w6.heap.size w6 W → Calls Tryz.prog 77 #[.pointer (some ⟨xb, 0, none⟩), .slice none 0 0] W fun e w' => ∃ A8 c8, e = .returned (.slice A8 L.length c8) ∧ NodeRow w' W.heap.size (.slice A8 L.length c8) L ∧ Below W.heap.size W w' from fun W hW => by
  have hsz : size k + 1 = L.length := by rw [← hn6, nodesOf_length]; simp [size]
  have h1 := list_calls w6 w0.heap.size W.heap.size hW.size (size k + 1) x k (.pointer none) 0 W (.slice none 0 0) [] (by omega) (hI6.below hW) hW (Kd.S_nil _ _ _ _ _) (Nat.le_refl _) (by have := HLN.out; simp; omega)
  rw [hxb2]
  refine h1.mono (fun e w' he => ?_)
  obtain ⟨v', rfl, hr, hk, hb, _⟩ := he
  rw [List.nil_append, hn6] at hr
  obtain ⟨A8, c8, rfl⟩ := Kd.S_slice hr
  exact ⟨A8, c8, rfl, hr, hb _ (Nat.le_refl _)⟩)
 have HAL := am (show Below w6.heap.size w6 (w6.alloc (.cells #[.int .i64 R.f0, .int .i64 R.f1, .int .i64 R.f2, .int .i64 R.f3, .string R.f4, .string R.f5, .int .i64 R.f6, .slice A6 R.f7.length c6] 33)) ∧ (w6.alloc (.cells #[.int .i64 R.f0, .int .i64 R.f1, .int .i64 R.f2, .int .i64 R.f3, .string R.f4, .string R.f5, .int .i64 R.f6, .slice A6 R.f7.length c6] 33)).heap[w6.heap.size]? = some (mbox8 R A6 c6 33) ∧ (w6.alloc (.cells #[.int .i64 R.f0, .int .i64 R.f1, .int .i64 R.f2, .int .i64 R.f3, .string R.f4, .string R.f5, .int .i64 R.f6, .slice A6 R.f7.length c6] 33)).heap.size = w6.heap.size + 1 from ⟨(Below.refl _ w6).alloc (Nat.le_refl _) _, blk_newest w6 _, by simp⟩)
 clear hr6 hxb hI6 hn6 hb6 hxb2 hg6
 go_wp2_with (first | (go_at_call 77; refine (HLS.out _ HAL.out.1).mono ?_; rintro e w8 ⟨A8, c8, rfl, hr8, hb8⟩; have HB8 := am hb8; have HR8 := am hr8; clear hr8 hb8 hg7) | (go_at_call 52; refine (HTL.out A8 c8 _ (Kd.C_alloc (Kd.S_reads' HR8.out).2.2 _) (Kd.S_reads' HR8.out).2.1).mono ?_; rintro e w10 ⟨rfl, hb10⟩; have HB10 := am hb10; clear hb10))
 have hb8a : Below w8.heap.size w8 (w8.alloc (boxT L.length A8 c8)) := (Below.refl _ w8).alloc (Nat.le_refl _) _
 have HB68 := am (below_step HAL.out.1 HB8.out)
 have HB8x := am (below_step hb8a HB10.out)
 have HBA := am (below_step (below_step (below_step H2.out HB26.out) HB68.out) HB8x.out)
 have HBT := am (show w10.heap[w8.heap.size]? = some (boxT L.length A8 c8) from blk_below (blk_newest w8 _) HB10.out)
 have HRC := am (show w10.heap[w6.heap.size]? = some (mbox8 R A6 c6 33) from blk_below (blk_below HAL.out.2.1 HB8.out) HB8x.out)
 have HY := am (blk_below H1.out.2.2.2.1 HBA.out)
 have HZ := am (blk_below H1.out.2.2.2.2.1 HBA.out)
 have HSZ := am (show w1.heap.size = w.heap.size + 4 ∧ w1.heap.size ≤ w2.heap.size ∧ w2.heap.size ≤ w6.heap.size ∧ w6.heap.size + 1 ≤ w8.heap.size ∧ w8.heap.size + 1 ≤ w10.heap.size ∧ w2.heap.size ≤ w5.heap.size from ⟨H1.out.2.2.2.2.2, H2.out.size, HB26.out.size, by have := HB8.out.size; rw [HAL.out.2.2] at this; exact this, by have := HB10.out.size; simpa using this, HS56.out⟩)
 clear hb8a
 have HXB1 := am (blk_below H1.out.2.2.1 HBA.out)
 have d0 := (cells8t HXB1.out).1
 have hz0 := blk_cell HY.out 0
 have hzf := blk_frozen HY.out 0
 obtain ⟨z0, z1, z2, z3, z4, z5, z6, z7⟩ := cells8t HZ.out
 have hzf8 := fun k => blk_frozen HZ.out k
 go_cut [6] (fun v6 wc => ∃ w11 r, v6 = .iface 123 (.pointer (some ⟨w11.heap.size, 0, none⟩)) ∧ Aside0 (Below w10.heap.size w10 w11 ∧ w11.cell? ⟨r, 0, none⟩ = some (.int .i64 4) ∧ w10.heap.size ≤ r ∧ FE w11 wc (w.heap.size + 1 + 1) (w.heap.size + 1 + 1 + 1) (.cells #[.int .i64 C.f0, .iface 127 (.pointer (some ⟨r, 0, none⟩))] 125)))
 case first =>
  have HE0 := am (show Zed (w10) (w.heap.size + 1) (w.heap.size + 1 + 1) (w.heap.size + 1 + 1 + 1) C A' c' from ⟨HXB1.out, HY.out, HZ.out⟩)
  have HE1 := am (show Zed ((w10.setCell ⟨w.heap.size + 1 + 1, 0, none⟩ (.slice none 0 0))) (w.heap.size + 1) (w.heap.size + 1 + 1) (w.heap.size + 1 + 1 + 1) C A' c' from (HE0.out.sy (by omega) (by omega) rfl).1)
  have HE2 := am (show Zed ((((((((((w10.setCell ⟨w.heap.size + 1 + 1, 0, none⟩ (.slice none 0 0)).setCell ⟨w.heap.size + 1 + 1 + 1, 0, none⟩ (.int .i64 0)).setCell ⟨w.heap.size + 1 + 1 + 1, 1, none⟩ (.int .i64 0)).setCell ⟨w.heap.size + 1 + 1 + 1, 2, none⟩ (.int .i64 0)).setCell ⟨w.heap.size + 1 + 1 + 1, 3, none⟩ (.int .i64 0)).setCell ⟨w.heap.size + 1 + 1 + 1, 4, none⟩ (.string ⟨#[]⟩)).setCell ⟨w.heap.size + 1 + 1 + 1, 5, none⟩ (.string ⟨#[]⟩)).setCell ⟨w.heap.size + 1 + 1 + 1, 6, none⟩ (.int .i64 0)).setCell ⟨w.heap.size + 1 + 1 + 1, 7, none⟩ (.slice none 0 0))) (w.heap.size + 1) (w.heap.size + 1 + 1) (w.heap.size + 1 + 1 + 1) C A' c' from (HE1.out.sz (by omega) (by omega) rfl).1)
  have HD0 := am (HE0.out.below (Below.refl _ w10).drew)
  have HD1 := am (HE1.out.below (Below.refl _ _).drew)
  have HD2 := am (HE2.out.below (Below.refl _ _).drew)
  have d1 := HE1.out.x0
  have d2 := HE2.out.x0
  obtain ⟨p0, p1, p2, p3, p4, p5, p6, p7⟩ := cells8t HE1.out.bz
  have pf := fun k => blk_frozen HE1.out.bz k
  clear HTO HNG HAO HLK HDO HTL HLN HLS
  go_region_held3 (fun W => W.cell? ⟨w.heap.size + 1, 0, none⟩ = some (.int .i64 C.f0)) (first | (with_reducible exact e0) | (with_reducible exact e1) | (with_reducible exact e2) | (with_reducible exact e3) | (with_reducible exact e4) | (with_reducible exact e5) | (with_reducible exact e6) | (with_reducible exact e7) | (with_reducible exact e8) | (with_reducible exact e9) | (with_reducible exact e10) | (with_reducible exact e11) | (with_reducible exact d0) | (with_reducible exact d1) | (with_reducible exact d2) | go_keep) (first | (go_at_call 75; refine (deny2 4 _).mono ?_; rintro e w11 ⟨r, rfl, hr, hb, hc⟩; have H11 := am (And.intro hr (And.intro hb hc)); have HE11 := am (show Zed (w11) (w.heap.size + 1) (w.heap.size + 1 + 1) (w.heap.size + 1 + 1 + 1) C A' c' from (by with_reducible first | exact HD0.out.below hb | exact HD1.out.below hb | exact HD2.out.below hb | exact HE0.out.below hb | exact HE1.out.below hb | exact HE2.out.below hb)); have HA1 := am (HE11.out.al (.cells #[.int .i64 C.f0, .iface 127 (.pointer (some ⟨r, 0, none⟩))] 125)); have HS1 := am (show Zed ((w11.setCell ⟨w.heap.size + 1 + 1, 0, none⟩ (.slice none 0 0))) (w.heap.size + 1) (w.heap.size + 1 + 1) (w.heap.size + 1 + 1 + 1) C A' c' from (HE11.out.sy (by omega) (by omega) rfl).1); have HA2 := am (HS1.out.al (.cells #[.int .i64 C.f0, .iface 127 (.pointer (some ⟨r, 0, none⟩))] 125)); have HC1 := am (show Zed (((((((((w11.setCell ⟨w.heap.size + 1 + 1 + 1, 0, none⟩ (.int .i64 0)).setCell ⟨w.heap.size + 1 + 1 + 1, 1, none⟩ (.int .i64 0)).setCell ⟨w.heap.size + 1 + 1 + 1, 2, none⟩ (.int .i64 0)).setCell ⟨w.heap.size + 1 + 1 + 1, 3, none⟩ (.int .i64 0)).setCell ⟨w.heap.size + 1 + 1 + 1, 4, none⟩ (.string ⟨#[]⟩)).setCell ⟨w.heap.size + 1 + 1 + 1, 5, none⟩ (.string ⟨#[]⟩)).setCell ⟨w.heap.size + 1 + 1 + 1, 6, none⟩ (.int .i64 0)).setCell ⟨w.heap.size + 1 + 1 + 1, 7, none⟩ (.slice none 0 0))) (w.heap.size + 1) (w.heap.size + 1 + 1) (w.heap.size + 1 + 1 + 1) C A' c' from (HE11.out.sz (by omega) (by omega) rfl).1); have HA3 := am (HC1.out.al (.cells #[.int .i64 C.f0, .iface 127 (.pointer (some ⟨r, 0, none⟩))] 125)); have HC2 := am (show Zed ((((((((((w11.setCell ⟨w.heap.size + 1 + 1, 0, none⟩ (.slice none 0 0)).setCell ⟨w.heap.size + 1 + 1 + 1, 0, none⟩ (.int .i64 0)).setCell ⟨w.heap.size + 1 + 1 + 1, 1, none⟩ (.int .i64 0)).setCell ⟨w.heap.size + 1 + 1 + 1, 2, none⟩ (.int .i64 0)).setCell ⟨w.heap.size + 1 + 1 + 1, 3, none⟩ (.int .i64 0)).setCell ⟨w.heap.size + 1 + 1 + 1, 4, none⟩ (.string ⟨#[]⟩)).setCell ⟨w.heap.size + 1 + 1 + 1, 5, none⟩ (.string ⟨#[]⟩)).setCell ⟨w.heap.size + 1 + 1 + 1, 6, none⟩ (.int .i64 0)).setCell ⟨w.heap.size + 1 + 1 + 1, 7, none⟩ (.slice none 0 0))) (w.heap.size + 1) (w.heap.size + 1 + 1) (w.heap.size + 1 + 1 + 1) C A' c' from (HS1.out.sz (by omega) (by omega) rfl).1); have HA4 := am (HC2.out.al (.cells #[.int .i64 C.f0, .iface 127 (.pointer (some ⟨r, 0, none⟩))] 125)); have e0 := HE11.out.x0; have e1 := HA1.out.x0; have e2 := HA2.out.x0; have e3 := HA3.out.x0; have e4 := HA4.out.x0; have HB1 := am (show Zed (((w11.alloc (.cells #[.int .i64 C.f0, .iface 127 (.pointer (some ⟨r, 0, none⟩))] 125)).setCell ⟨w.heap.size + 1 + 1, 0, none⟩ (.slice none 0 0))) (w.heap.size + 1) (w.heap.size + 1 + 1) (w.heap.size + 1 + 1 + 1) C A' c' from (HA1.out.sy (by omega) (by omega) rfl).1); have HB2 := am (show Zed (((((((((((w11.alloc (.cells #[.int .i64 C.f0, .iface 127 (.pointer (some ⟨r, 0, none⟩))] 125)).setCell ⟨w.heap.size + 1 + 1, 0, none⟩ (.slice none 0 0)).setCell ⟨w.heap.size + 1 + 1 + 1, 0, none⟩ (.int .i64 0)).setCell ⟨w.heap.size + 1 + 1 + 1, 1, none⟩ (.int .i64 0)).setCell ⟨w.heap.size + 1 + 1 + 1, 2, none⟩ (.int .i64 0)).setCell ⟨w.heap.size + 1 + 1 + 1, 3, none⟩ (.int .i64 0)).setCell ⟨w.heap.size + 1 + 1 + 1, 4, none⟩ (.string ⟨#[]⟩)).setCell ⟨w.heap.size + 1 + 1 + 1, 5, none⟩ (.string ⟨#[]⟩)).setCell ⟨w.heap.size + 1 + 1 + 1, 6, none⟩ (.int .i64 0)).setCell ⟨w.heap.size + 1 + 1 + 1, 7, none⟩ (.slice none 0 0))) (w.heap.size + 1) (w.heap.size + 1 + 1) (w.heap.size + 1 + 1 + 1) C A' c' from (HB1.out.sz (by omega) (by omega) rfl).1); have HB3 := am (show Zed (((((((((((w11.setCell ⟨w.heap.size + 1 + 1, 0, none⟩ (.slice none 0 0)).alloc (.cells #[.int .i64 C.f0, .iface 127 (.pointer (some ⟨r, 0, none⟩))] 125)).setCell ⟨w.heap.size + 1 + 1 + 1, 0, none⟩ (.int .i64 0)).setCell ⟨w.heap.size + 1 + 1 + 1, 1, none⟩ (.int .i64 0)).setCell ⟨w.heap.size + 1 + 1 + 1, 2, none⟩ (.int .i64 0)).setCell ⟨w.heap.size + 1 + 1 + 1, 3, none⟩ (.int .i64 0)).setCell ⟨w.heap.size + 1 + 1 + 1, 4, none⟩ (.string ⟨#[]⟩)).setCell ⟨w.heap.size + 1 + 1 + 1, 5, none⟩ (.string ⟨#[]⟩)).setCell ⟨w.heap.size + 1 + 1 + 1, 6, none⟩ (.int .i64 0)).setCell ⟨w.heap.size + 1 + 1 + 1, 7, none⟩ (.slice none 0 0))) (w.heap.size + 1) (w.heap.size + 1 + 1) (w.heap.size + 1 + 1 + 1) C A' c' from (HA2.out.sz (by omega) (by omega) rfl).1); have HB4 := am (show Zed ((((((((((w11.alloc (.cells #[.int .i64 C.f0, .iface 127 (.pointer (some ⟨r, 0, none⟩))] 125)).setCell ⟨w.heap.size + 1 + 1 + 1, 0, none⟩ (.int .i64 0)).setCell ⟨w.heap.size + 1 + 1 + 1, 1, none⟩ (.int .i64 0)).setCell ⟨w.heap.size + 1 + 1 + 1, 2, none⟩ (.int .i64 0)).setCell ⟨w.heap.size + 1 + 1 + 1, 3, none⟩ (.int .i64 0)).setCell ⟨w.heap.size + 1 + 1 + 1, 4, none⟩ (.string ⟨#[]⟩)).setCell ⟨w.heap.size + 1 + 1 + 1, 5, none⟩ (.string ⟨#[]⟩)).setCell ⟨w.heap.size + 1 + 1 + 1, 6, none⟩ (.int .i64 0)).setCell ⟨w.heap.size + 1 + 1 + 1, 7, none⟩ (.slice none 0 0))) (w.heap.size + 1) (w.heap.size + 1 + 1) (w.heap.size + 1 + 1 + 1) C A' c' from (HA1.out.sz (by omega) (by omega) rfl).1); have e5 := HB1.out.x0; have e6 := HB2.out.x0; have e7 := HB3.out.x0; have e8 := HB4.out.x0; have e9 := HC1.out.x0; have e10 := HC2.out.x0; have e11 := HS1.out.x0; have g0 := blk_cell HE11.out.by_ 0; have gf := blk_frozen HE11.out.by_ 0; have k0 := blk_cell HA1.out.by_ 0; have kf := blk_frozen HA1.out.by_ 0; obtain ⟨a0, a1, a2, a3, a4, a5, a6, a7⟩ := cells8t HE11.out.bz; have af := fun k => blk_frozen HE11.out.bz k; obtain ⟨b0, b1, b2, b3, b4, b5, b6, b7⟩ := cells8t HA1.out.bz; have bf := fun k => blk_frozen HA1.out.bz k; obtain ⟨c0, c1, c2, c3, c4, c5, c6, c7⟩ := cells8t HA2.out.bz; have cf := fun k => blk_frozen HA2.out.bz k; clear hr hb hc))
  all_goals
   have HB11 := am (show Below w10.heap.size w10 w11 from (by with_reducible first | exact H11.out.2.1 | exact below_step (Below.refl _ w10).drew H11.out.2.1))
   have HR11 := am (show w10.heap.size ≤ r from H11.out.1)
  ·go_wp2
   go_meet
   case rel => exact ⟨w11, r, rfl, ⟨HB11.out, H11.out.2.2, HR11.out, ge1 HE11.out.by_ HE11.out.bz (by omega) rfl rfl rfl⟩⟩
  ·go_wp2
   go_meet
   case rel => exact ⟨w11, r, rfl, ⟨HB11.out, H11.out.2.2, HR11.out, ge2 HE11.out.by_ HE11.out.bz (by omega) rfl rfl rfl⟩⟩
  ·go_wp2
   go_meet
   case rel => exact ⟨w11, r, rfl, ⟨HB11.out, H11.out.2.2, HR11.out, ge3 HE11.out.by_ HE11.out.bz (by omega) rfl rfl⟩⟩
 case rest =>
  obtain ⟨w11, r, rfl, HF⟩ := hcut
  clear d0 hz0 hzf z0 z1 z2 z3 z4 z5 z6 z7 hzf8
  have g0 := blk_cell HF.out.2.2.2.cy 0
  obtain ⟨y0, y1, y2, y3, y4, y5, y6, y7⟩ := cells8t HF.out.2.2.2.cz
  go_wp2_with fail
  have hsz := HSZ.out
  refine bodyPost_ret (v := .tuple #[.agg #[.slice none 0 0], chv zC none 0, .iface 123 (.pointer (some ⟨w11.heap.size, 0, none⟩))]) (by simp [results, Tryz.results43, go_sem, g0, y0, y1, y2, y3, y4, y5, y6, y7, hut, hutr]) rfl (show CodeEnd _ _ _ _ from ?_)
  unfold CodeEnd
  have h11 := HF.out
  refine ⟨h11.2.2.2.below _ _ (below_step (below_step H1.out.1 HBA.out) h11.1) (by omega) (by omega), w11.heap.size, r, rfl, blk_cell h11.2.2.2.new 1, ?_⟩
  have hrl := World.block_lt_of_cell? w11 _ h11.2.1
  have hr := h11.2.2.1
  exact (World.cell?_of_block (w := w11) (h11.2.2.2.far r hrl (by omega) (by omega))).trans h11.2.1
end Go.Proofs.YthjgohbkpjhkeaaGreatDoor.Impl
namespace Go.Proofs.YthjgohbkpjhkeaaGreatDoor.Impl
open Go.RowKit Go.Proofs.YthjgohbkpjhkeaaGreatDoorW.PrintWords
theorem m_insertAct_look (v : Value) (w : World) : (method 358 159 v "loop.example/g00011/impl.look").run Tryz.prog w = .ok (148, v) w := by kernel_rfl
theorem c_insertAct_look (args : Array Value) (w : World) : (callFunc 148 args).run Tryz.prog w = .ok (.enter 148 args) w := by kernel_rfl
theorem m_insertAct_do (v : Value) (w : World) : (method 358 159 v "loop.example/g00011/impl.do").run Tryz.prog w = .ok (147, v) w := by kernel_rfl
theorem c_insertAct_do (args : Array Value) (w : World) : (callFunc 147 args).run Tryz.prog w = .ok (.enter 147 args) w := by kernel_rfl
theorem m_removeAct_look (v : Value) (w : World) : (method 358 160 v "loop.example/g00011/impl.look").run Tryz.prog w = .ok (160, v) w := by kernel_rfl
theorem c_removeAct_look (args : Array Value) (w : World) : (callFunc 160 args).run Tryz.prog w = .ok (.enter 160 args) w := by kernel_rfl
theorem m_removeAct_do (v : Value) (w : World) : (method 358 160 v "loop.example/g00011/impl.do").run Tryz.prog w = .ok (159, v) w := by kernel_rfl
theorem c_removeAct_do (args : Array Value) (w : World) : (callFunc 159 args).run Tryz.prog w = .ok (.enter 159 args) w := by kernel_rfl
theorem m_moveAct_look (v : Value) (w : World) : (method 358 161 v "loop.example/g00011/impl.look").run Tryz.prog w = .ok (166, v) w := by kernel_rfl
theorem c_moveAct_look (args : Array Value) (w : World) : (callFunc 166 args).run Tryz.prog w = .ok (.enter 166 args) w := by kernel_rfl
theorem m_moveAct_do (v : Value) (w : World) : (method 358 161 v "loop.example/g00011/impl.do").run Tryz.prog w = .ok (165, v) w := by kernel_rfl
theorem c_moveAct_do (args : Array Value) (w : World) : (callFunc 165 args).run Tryz.prog w = .ok (.enter 165 args) w := by kernel_rfl
theorem m_attrAct_look (v : Value) (w : World) : (method 358 162 v "loop.example/g00011/impl.look").run Tryz.prog w = .ok (168, v) w := by kernel_rfl
theorem c_attrAct_look (args : Array Value) (w : World) : (callFunc 168 args).run Tryz.prog w = .ok (.enter 168 args) w := by kernel_rfl
theorem m_attrAct_do (v : Value) (w : World) : (method 358 162 v "loop.example/g00011/impl.do").run Tryz.prog w = .ok (167, v) w := by kernel_rfl
theorem c_attrAct_do (args : Array Value) (w : World) : (callFunc 167 args).run Tryz.prog w = .ok (.enter 167 args) w := by kernel_rfl
theorem m_dropAct_look (v : Value) (w : World) : (method 358 163 v "loop.example/g00011/impl.look").run Tryz.prog w = .ok (179, v) w := by kernel_rfl
theorem c_dropAct_look (args : Array Value) (w : World) : (callFunc 179 args).run Tryz.prog w = .ok (.enter 179 args) w := by kernel_rfl
theorem m_dropAct_do (v : Value) (w : World) : (method 358 163 v "loop.example/g00011/impl.do").run Tryz.prog w = .ok (178, v) w := by kernel_rfl
theorem c_dropAct_do (args : Array Value) (w : World) : (callFunc 178 args).run Tryz.prog w = .ok (.enter 178 args) w := by kernel_rfl
theorem m_textAct_look (v : Value) (w : World) : (method 358 164 v "loop.example/g00011/impl.look").run Tryz.prog w = .ok (182, v) w := by kernel_rfl
theorem c_textAct_look (args : Array Value) (w : World) : (callFunc 182 args).run Tryz.prog w = .ok (.enter 182 args) w := by kernel_rfl
theorem m_textAct_do (v : Value) (w : World) : (method 358 164 v "loop.example/g00011/impl.do").run Tryz.prog w = .ok (181, v) w := by kernel_rfl
theorem c_textAct_do (args : Array Value) (w : World) : (callFunc 181 args).run Tryz.prog w = .ok (.enter 181 args) w := by kernel_rfl
theorem m_noAct_look (v : Value) (w : World) : (method 358 165 v "loop.example/g00011/impl.look").run Tryz.prog w = .ok (184, v) w := by kernel_rfl
theorem c_noAct_look (args : Array Value) (w : World) : (callFunc 184 args).run Tryz.prog w = .ok (.enter 184 args) w := by kernel_rfl
theorem m_noAct_do (v : Value) (w : World) : (method 358 165 v "loop.example/g00011/impl.do").run Tryz.prog w = .ok (183, v) w := by kernel_rfl
theorem c_noAct_do (args : Array Value) (w : World) : (callFunc 183 args).run Tryz.prog w = .ok (.enter 183 args) w := by kernel_rfl
end Go.Proofs.YthjgohbkpjhkeaaGreatDoor.Impl
namespace Go.Proofs.YthjgohbkpjhkeaaGreatDoor.Impl
open Go.RowKit Go.Proofs.YthjgohbkpjhkeaaGreatDoorW.PrintWords Go.Proofs.YthjgohbkpjhkeaaGreatDoorW.PrintLast Go.Proofs.YthjgohbkpjhkeaaGreatDoorW.PrintMore Go.Proofs.YthjgohbkpjhkeaaGreatDoor.PFnExactDo Go.Proofs.YthjgohbkpjhkeaaGreatDoor.MapLib Go.Proofs.YthjgohbkpjhkeaaGreatDoor.FireSpec Go.Proofs.YthjgohbkpjhkeaaGreatDoor.Tr Go.Proofs.YthjgohbkpjhkeaaGreatDoor.Fo
section
variable {ns : List S95} {C : Chg}
theorem goal_none {pr : Nat → Option Nat} (h : goalCode ns pr C = none) : ∃ p, place ns C.f2 = some p ∧ (C.f3 = -1 ∨ (C.f3 ≠ -1 ∧ ∃ b, place ns C.f3 = some b ∧ pr b = some p)) := by
 unfold goalCode at h
 cases hp : place ns C.f2 with
 | none => rw [hp] at h; cases h
 | some p =>
  rw [hp] at h
  simp only at h
  refine ⟨p, rfl, ?_⟩
  by_cases hf : C.f3 = -1
  ·exact .inl hf
  ·rw [if_neg hf] at h
   cases hb : place ns C.f3 with
   | none => rw [hb] at h; cases h
   | some b =>
    rw [hb] at h
    simp only at h
    by_cases hq : pr b = some p
    ·exact .inr ⟨hf, b, rfl, hq⟩
    ·rw [if_neg hq] at h; cases h
theorem wholeL_le {m : Int} : ∀ (l : List S95) (o : Int), 0 ≤ o → 0 ≤ m → wholeL m o l = true → o ≤ l.length
 | [], o, h0, hm, h => by simp only [wholeL, beq_iff_eq] at h; simp [h]
 | n :: r, o, h0, hm, h => by
  unfold wholeL at h
  split at h
  ·cases h
  ·rename_i hc
   simp only [Bool.or_eq_true, beq_iff_eq, decide_eq_true_eq, not_or] at hc
   have h1 : 0 ≤ min n.f5 (m + 1) := by omega
   have := wholeL_le r _ (by omega) hm h
   simp only [List.length_cons]
   omega
theorem wholeL_iff {m : Int} : ∀ (l : List S95) (o p : Nat), (l.length : Int) ≤ m → (wholeL m o l = true ↔ (∀ n ∈ l, 0 ≤ n.f5) ∧ fin (kids l) o p = some (p + l.length))
 | [], o, p, hm => by
  cases o with
  | zero => simp [wholeL, kids, fin]
  | succ o => simp [wholeL, kids, fin]; omega
 | n :: r, 0, p, hm => by
  simp only [wholeL, kids, List.map_cons, fin, List.length_cons]
  constructor
  ·intro h; simp at h
  ·rintro ⟨_, h⟩; injection h with h; omega
 | n :: r, o + 1, p, hm => by
  simp only [List.length_cons] at hm
  have e1 : ((((o + 1 : Nat) : Int)) == 0) = false := by simp; omega
  rw [show wholeL m ((o + 1 : Nat) : Int) (n :: r) = (if (((o + 1 : Nat) : Int) == 0) || decide (n.f5 < 0) then false else wholeL m (((o + 1 : Nat) : Int) + (min n.f5 (m + 1) - 1)) r) from rfl, e1, Bool.false_or]
  by_cases h5 : n.f5 < 0
  ·rw [if_pos (by simpa using h5)]
   constructor
   ·intro h; cases h
   ·rintro ⟨h, _⟩; have := h n (by simp); omega
  ·rw [if_neg (by simpa using h5)]
   have hk : kids (n :: r) = kid n :: kids r := rfl
   rw [hk]
   simp only [fin]
   by_cases hb : n.f5 ≤ m
   ·have e2 : ((o + 1 : Nat) : Int) + (min n.f5 (m + 1) - 1) = ((kid n + o : Nat) : Int) := by unfold kid; omega
    rw [e2, wholeL_iff r (kid n + o) (p + 1) (by omega)]
    constructor
    ·rintro ⟨h1, h2⟩
     exact ⟨fun x hx => by rcases List.mem_cons.1 hx with rfl | hx; omega; exact h1 x hx, by rw [h2, List.length_cons]; congr 1; omega⟩
    ·rintro ⟨h1, h2⟩
     exact ⟨fun x hx => h1 x (by simp [hx]), by rw [h2, List.length_cons]; congr 1; omega⟩
   ·constructor
    ·intro h
     have := wholeL_le r _ (by omega) (by omega) h
     omega
    ·rintro ⟨_, h2⟩
     have := fin_bounds _ _ _ _ h2
     have h3 : (kids r).length = r.length := by simp [kids]
     unfold kid at this
     omega
theorem whole_E (ns2 : List S95) : wholeF ns2 = true ↔ (∀ n ∈ ns2, 0 ≤ n.f5) ∧ E (kids ns2) 0 1 = some ns2.length := by
 unfold wholeF E
 have := wholeL_iff (m := (ns2.length : Int)) ns2 1 0 (by omega)
 simpa using this
theorem isUp_in {ks : List Nat} {j e : Nat} (he : E ks j 1 = some e) : ∀ (d k p : Nat), p - j = d → j ≤ p → p < e → p < k → isUp (parOf ks) j k (some p) = true := by
 intro d
 induction d using Nat.strongRecOn with
 | _ d ih =>
  intro k p hd h1 h2 hk
  obtain ⟨k, rfl⟩ : ∃ m, k = m + 1 := ⟨k - 1, by omega⟩
  unfold isUp
  by_cases h : p = j
  ·rw [if_pos h]
  ·rw [if_neg h]
   rcases kid_or (p - j) j 1 e p rfl he h1 h2 with ⟨t, ht, h3⟩ | ⟨P, i, h3, h4⟩
   ·obtain rfl : t = 0 := by omega
    rw [E_zero] at h3
    injection h3 with h3
    omega
   ·rw [parOf_of h4]
    have := h4.lt
    exact ih (P - j) (by omega) k P rfl h3 (by omega) (by omega)
theorem isUp_out {ks : List Nat} {j e : Nat} (he : E ks j 1 = some e) : ∀ (k p : Nat), isUp (parOf ks) j k (some p) = true → j ≤ p ∧ p < e
 | 0, p, h => by simp [isUp] at h
 | k + 1, p, h => by
  have hb := (E_bounds he).2 (by omega)
  unfold isUp at h
  by_cases hp : p = j
  ·omega
  ·rw [if_neg hp] at h
   cases hq : parOf ks p with
   | none => rw [hq] at h; cases k <;> simp [isUp] at h
   | some P =>
    rw [hq] at h
    obtain ⟨h1, h2⟩ := isUp_out he k P h
    obtain ⟨i, hK⟩ := parOf_some hq
    have := hK.lt
    refine ⟨by omega, ?_⟩
    obtain ⟨e', h3, h4⟩ := E_inside _ _ _ _ P rfl he h1 h2
    have := hK.end_gt h3
    omega
end
def atOf (ns : List S95) (C : Chg) : Nat := (place ns C.f1).getD 0
def actCode (ns : List S95) (C : Chg) : Option Int :=
 if C.f0 = 1 then insertCode ns (parOf (kids ns)) C else if C.f0 = 2 then removeCode ns C else if C.f0 = 3 then moveCode ns (parOf (kids ns)) C else if C.f0 = 4 then attrCode ns C else if C.f0 = 5 then dropCode ns C else if C.f0 = 6 then textCode ns C else noCode ns C
def actOut (ns : List S95) (C : Chg) : Out :=
 if C.f0 = 1 then outI ns C else if C.f0 = 2 then outR ns (atOf ns C) else if C.f0 = 3 then outM ns C (atOf ns C) else if C.f0 = 4 then outA ns C (atOf ns C) else if C.f0 = 5 then outD ns C (atOf ns C) else outT ns C (atOf ns C)
structure ChIn (w : World) (C : Chg) (A' : Option Addr) : Prop where
 hC : Kd.C k95 w A' C.f7.length C.f7
 hn : C.f7.length ≤ 1100000
 hat : ∀ n ∈ C.f7, n.f3.length ≤ 1000000000
 hwf : ∀ n ∈ C.f7, n.f5 ≤ 9223372036854775807 ∧ -9223372036854775808 ≤ n.f5
section
variable {ns : List S95} {w0 w w' W : World} {g base : Nat} {bs : List Nat} {KV : Nat → Value} {C : Chg} {A' : Option Addr} {c' : Nat}
theorem ChIn.below (h : ChIn w C A') (hb : Below w.heap.size w W) : ChIn W C A' := ⟨Kd.C_below h.hC hb, h.hn, h.hat, h.hwf⟩
theorem Plot.twigs (h : Plot ns w0 w g base bs KV) : Twigs w ns bs (parOf (kids ns)) := by
 obtain ⟨lv, hg⟩ := h.gr
 exact twigs_of hg h.b0 h.he (fun n hn => Nat.le_of_lt (h.hn n hn))
theorem element_none (h : elementCode ns C = none) : ∃ j, place ns C.f1 = some j := by
 unfold elementCode at h
 cases hp : place ns C.f1 with
 | none => rw [hp] at h; cases h
 | some j => exact ⟨j, rfl⟩
theorem insert_act (h : Plot ns w0 w g base bs KV) (hc : ChIn w C A') (hk : insertCode ns (parOf (kids ns)) C = none) : Calls Tryz.prog 147 #[chv C A' c', .pointer (some ⟨g, 0, none⟩)] w (DoEnd w g base (bs.getD 0 0) (outI ns C).1 (outI ns C).2) := by
 unfold insertCode at hk
 cases hg : goalCode ns (parOf (kids ns)) C with
 | some k => rw [hg] at hk; cases hk
 | none =>
  rw [hg] at hk
  simp only at hk
  obtain ⟨p, hp, hb⟩ := goal_none hg
  rw [hp] at hk
  simp only at hk
  split at hk
  ·cases hk
  ·rename_i hx
   simp only [Bool.or_eq_true, Bool.not_eq_true', not_or, Bool.not_eq_false] at hx
   obtain ⟨h1, h2⟩ := (whole_E C.f7).1 hx.2
   exact insert_end h C A' c' hc.hC hc.hat h1 hc.hn h2 p hp hb
theorem remove_act (h : Plot ns w0 w g base bs KV) (hk : removeCode ns C = none) : Calls Tryz.prog 159 #[chv C A' c', .pointer (some ⟨g, 0, none⟩)] w (DoEnd w g base (bs.getD 0 0) (outR ns (atOf ns C)).1 (outR ns (atOf ns C)).2) := by
 unfold removeCode at hk
 unfold atOf
 cases hp : place ns C.f1 with
 | none => rw [hp] at hk; cases hk
 | some j =>
  rw [hp] at hk
  simp only at hk
  by_cases h0 : j = 0
  ·rw [if_pos h0] at hk; cases hk
  ·exact remove_end h C A' c' hp h0
theorem move_act (h : Plot ns w0 w g base bs KV) (hk : moveCode ns (parOf (kids ns)) C = none) : Calls Tryz.prog 165 #[chv C A' c', .pointer (some ⟨g, 0, none⟩)] w (DoEnd w g base (bs.getD 0 0) (outM ns C (atOf ns C)).1 (outM ns C (atOf ns C)).2) := by
 unfold moveCode at hk
 unfold atOf
 cases hp : place ns C.f1 with
 | none => rw [hp] at hk; cases hk
 | some j =>
  rw [hp] at hk
  simp only at hk
  cases hg : goalCode ns (parOf (kids ns)) C with
  | some k => rw [hg] at hk; cases hk
  | none =>
   rw [hg] at hk
   simp only at hk
   obtain ⟨p, hp2, hb⟩ := goal_none hg
   rw [hp2] at hk
   simp only at hk
   split at hk
   ·cases hk
   ·rename_i hx
    split at hk
    ·cases hk
    ·rename_i hu
     simp only [Bool.or_eq_true, decide_eq_true_eq, Bool.not_eq_true', not_or, Bool.not_eq_false, Bool.and_eq_true, bne_iff_ne, ne_eq, beq_iff_eq, not_and] at hx
     have hj := (place_some hp).1
     have hpl := (place_some hp2).1
     have hl : (kids ns).length = ns.length := by simp [kids]
     obtain ⟨e, hE, _⟩ := E_inside _ _ _ _ j rfl h.he (Nat.zero_le _) hj
     have hend : endOf ns j = e := by unfold endOf; rw [hE]; rfl
     refine move_end h C A' c' hp hx.1.1 p hp2 ?_ ?_
     ·show p < j ∨ endOf ns j ≤ p
      rw [hend]
      rcases Nat.lt_or_ge p j with h1 | h1
      ·exact .inl h1
      ·rcases Nat.lt_or_ge p e with h2 | h2
       ·exact absurd (isUp_in hE _ (p + 1) p rfl h1 h2 (by omega)) hu
       ·exact .inr h2
     ·rcases hb with hb | ⟨hb, b, hb1, hb2⟩
      ·exact .inl hb
      ·refine .inr ⟨hb, b, hb1, hb2, fun e => hx.2 hb ?_⟩
       subst e
       rw [← (place_some hb1).2, ← (place_some hp).2]
theorem attr_act (h : Plot ns w0 w g base bs KV) (hk : attrCode ns C = none) : Calls Tryz.prog 167 #[chv C A' c', .pointer (some ⟨g, 0, none⟩)] w (DoEnd w g base (bs.getD 0 0) (outA ns C (atOf ns C)).1 (outA ns C (atOf ns C)).2) := by
 unfold attrCode at hk
 cases he : elementCode ns C with
 | some k => rw [he] at hk; cases hk
 | none =>
  obtain ⟨j, hp⟩ := element_none he
  unfold atOf
  rw [hp]
  exact attr_end h C A' c' j hp
theorem drop_act (h : Plot ns w0 w g base bs KV) (hk : dropCode ns C = none) : Calls Tryz.prog 178 #[chv C A' c', .pointer (some ⟨g, 0, none⟩)] w (DoEnd w g base (bs.getD 0 0) (outD ns C (atOf ns C)).1 (outD ns C (atOf ns C)).2) := by
 unfold dropCode at hk
 cases he : elementCode ns C with
 | some k => rw [he] at hk; cases hk
 | none =>
  rw [he] at hk
  obtain ⟨j, hp⟩ := element_none he
  rw [hp] at hk
  simp only at hk
  unfold atOf
  rw [hp]
  by_cases hi : idxA C.f4 (attrsOf ns j) = none
  ·rw [if_pos hi] at hk; cases hk
  ·exact drop_end h C A' c' j hp hi
theorem text_act (h : Plot ns w0 w g base bs KV) (hk : textCode ns C = none) : Calls Tryz.prog 181 #[chv C A' c', .pointer (some ⟨g, 0, none⟩)] w (DoEnd w g base (bs.getD 0 0) (outT ns C (atOf ns C)).1 (outT ns C (atOf ns C)).2) := by
 unfold textCode at hk
 unfold atOf
 cases hp : place ns C.f1 with
 | none => rw [hp] at hk; cases hk
 | some j => exact text_end h C A' c' j hp
theorem act_pick (ns : List S95) (C : Chg) (A' : Option Addr) (c' : Nat) (w : World) (hc : ChIn w C A') : ∃ kl kd, (∀ v w, (method 358 (actT C.f0) v "loop.example/g00011/impl.look").run Tryz.prog w = .ok (kl, v) w) ∧ (∀ args w, (callFunc kl args).run Tryz.prog w = .ok (.enter kl args) w) ∧ (∀ v w, (method 358 (actT C.f0) v "loop.example/g00011/impl.do").run Tryz.prog w = .ok (kd, v) w) ∧ (∀ args w, (callFunc kd args).run Tryz.prog w = .ok (.enter kd args) w) ∧
  (∀ W w0 g base bs KV, Below w.heap.size w W → Plot ns w0 W g base bs KV → Calls Tryz.prog kl #[chv C A' c', .pointer (some ⟨g, 0, none⟩)] W (LookEnd W (actCode ns C))) ∧
  (actCode ns C = none → ∀ W w0 g base bs KV, Below w.heap.size w W → Plot ns w0 W g base bs KV → Calls Tryz.prog kd #[chv C A' c', .pointer (some ⟨g, 0, none⟩)] W (DoEnd W g base (bs.getD 0 0) (actOut ns C).1 (actOut ns C).2)) := by
 have hpr : ∀ p q, parOf (kids ns) p = some q → q < p := fun p q h => parOf_lt h
 unfold actT actCode actOut
 by_cases k1 : C.f0 = 1
 ·simp only [if_pos k1]
  exact ⟨_, _, m_insertAct_look, c_insertAct_look, m_insertAct_do, c_insertAct_do, fun W w0 g base bs KV hb h => insert_look W g ns bs C A' c' h.gm h.bl h.nd _ h.twigs h.stand.bnd (hc.below hb).hC (by have := hc.hn; omega) hc.hwf, fun hk W w0 g base bs KV hb h => insert_act h (hc.below hb) hk⟩
 simp only [if_neg k1]
 by_cases k2 : C.f0 = 2
 ·simp only [if_pos k2]
  exact ⟨_, _, m_removeAct_look, c_removeAct_look, m_removeAct_do, c_removeAct_do, fun W w0 g base bs KV hb h => remove_look W g ns bs C A' c' h.gm h.bl h.nd _ h.twigs h.stand.bnd, fun hk W w0 g base bs KV hb h => remove_act h hk⟩
 simp only [if_neg k2]
 by_cases k3 : C.f0 = 3
 ·simp only [if_pos k3]
  exact ⟨_, _, m_moveAct_look, c_moveAct_look, m_moveAct_do, c_moveAct_do, fun W w0 g base bs KV hb h => move_look W g ns bs C A' c' h.gm h.bl h.nd _ h.twigs h.stand.bnd hpr, fun hk W w0 g base bs KV hb h => move_act h hk⟩
 simp only [if_neg k3]
 by_cases k4 : C.f0 = 4
 ·simp only [if_pos k4]
  exact ⟨_, _, m_attrAct_look, c_attrAct_look, m_attrAct_do, c_attrAct_do, fun W w0 g base bs KV hb h => attr_look W g ns bs C A' c' h.gm h.bl h.nd _ h.twigs, fun hk W w0 g base bs KV hb h => attr_act h hk⟩
 simp only [if_neg k4]
 by_cases k5 : C.f0 = 5
 ·simp only [if_pos k5]
  exact ⟨_, _, m_dropAct_look, c_dropAct_look, m_dropAct_do, c_dropAct_do, fun W w0 g base bs KV hb h => drop_look W g ns bs C A' c' h.gm h.bl h.nd _ h.twigs, fun hk W w0 g base bs KV hb h => drop_act h hk⟩
 simp only [if_neg k5]
 by_cases k6 : C.f0 = 6
 ·simp only [if_pos k6]
  exact ⟨_, _, m_textAct_look, c_textAct_look, m_textAct_do, c_textAct_do, fun W w0 g base bs KV hb h => text_look W g ns bs C A' c' h.gm h.bl h.nd _ h.twigs, fun hk W w0 g base bs KV hb h => text_act h hk⟩
 simp only [if_neg k6]
 refine ⟨_, _, m_noAct_look, c_noAct_look, m_noAct_do, c_noAct_do, fun W w0 g base bs KV hb h => no_look W g ns bs C A' c' h.gm h.bl h.nd, fun hk => ?_⟩
 unfold noCode at hk
 split at hk <;> cases hk
end
end Go.Proofs.YthjgohbkpjhkeaaGreatDoor.Impl
