/- Part 18 of the proof: DoAttrO, DoInsA. -/
import Derived.Test.YthjgohbkpjhkeaaGreatDoorA1
import Derived.Test.YthjgohbkpjhkeaaGreatDoorA15
import Derived.Test.YthjgohbkpjhkeaaGreatDoorA13
import Derived.Deep.RegionLaw
import Derived.Deep.LoopGhost
import Derived.Lib.Walk
import Derived.Lib.Overlaps
import Derived.Laws.Externs
import Derived.Laws.NewBlocks
import Derived.Maps.AppendAt
set_option linter.unusedVariables false
set_option linter.unusedSimpArgs false
set_option maxHeartbeats 4000000
set_option maxRecDepth 100000
namespace Go.Proofs.YthjgohbkpjhkeaaGreatDoor.Impl
open Go.RowKit Go.Proofs.YthjgohbkpjhkeaaGreatDoorW.PrintWords Go.Proofs.YthjgohbkpjhkeaaGreatDoorW.PrintLast Go.Proofs.YthjgohbkpjhkeaaGreatDoorW.PrintMore Go.Proofs.YthjgohbkpjhkeaaGreatDoor.PFnExactDo Go.Proofs.YthjgohbkpjhkeaaGreatDoor.MapLib Go.Proofs.YthjgohbkpjhkeaaGreatDoor.FireSpec Go.Proofs.YthjgohbkpjhkeaaGreatDoor.Tr Go.Proofs.YthjgohbkpjhkeaaGreatDoor.Fo
theorem add_head (g k : Nat) : (⟨g, 0, none⟩ : Addr).add k = ⟨g, k, none⟩ := by
 unfold Addr.add
 split
 ·rename_i h; rw [h]
 ·simp
theorem attr_put {w w' : World} {g i : Nat} {xs : List S149} {s : ByteArray} (h : Kd.C k149 w (some ⟨g, 0, none⟩) xs.length xs) (hi : i < xs.length) (hc : w'.cell? ⟨g, i * 2 + 1, none⟩ = some (.string s)) (ho : ∀ k, k ≠ i * 2 + 1 → w'.cell? ⟨g, k, none⟩ = w.cell? ⟨g, k, none⟩) :
  Kd.C k149 w' (some ⟨g, 0, none⟩) xs.length (xs.set i ⟨xs[i].f0, s⟩) := by
 refine ⟨by simp, h.2.1, fun hn => ⟨_, rfl, fun j p hj => ⟨[.string p.f0, .string p.f1], rfl, k149_mk _ _, fun m u hu => ?_⟩⟩⟩
 rw [add_head]
 show w'.cell? ⟨g, j * 2 + m, none⟩ = some u
 have hjl : j < xs.length := by
  rcases Nat.lt_or_ge j xs.length with h1 | h1
  ·exact h1
  ·rw [List.getElem?_eq_none (by simpa using h1)] at hj; cases hj
 obtain ⟨ad, e, h0, h1⟩ := at_T149 h (j : Int) (by omega) (by omega)
 cases e
 have hrd : rd_T149 xs (j : Int) = xs[j] := by simp [rd_T149, hjl]
 rw [hrd] at h0 h1
 simp only [Int.toNat_natCast, add_head] at h0 h1
 have hm : m = 0 ∨ m = 1 := by
  rcases m with _ | _ | m
  ·exact .inl rfl
  ·exact .inr rfl
  ·simp at hu
 by_cases hij : i = j
 ·subst hij
  rw [List.getElem?_set_self hi] at hj
  injection hj with hj
  subst hj
  rcases hm with rfl | rfl
  ·simp only [List.getElem?_cons_zero, Option.some.injEq] at hu
   subst hu
   rw [ho _ (by omega)]
   exact h0
  ·simp only [List.getElem?_cons_succ, List.getElem?_cons_zero, Option.some.injEq] at hu
   subst hu
   exact hc
 ·rw [List.getElem?_set_ne hij, List.getElem?_eq_getElem hjl] at hj
  injection hj with hj
  subst hj
  rcases hm with rfl | rfl
  ·simp only [List.getElem?_cons_zero, Option.some.injEq] at hu
   subst hu
   rw [ho _ (by omega)]
   exact h0
  ·simp only [List.getElem?_cons_succ, List.getElem?_cons_zero, Option.some.injEq] at hu
   subst hu
   rw [ho _ (by omega)]
   exact h1
theorem attrs_keep {w w' : World} {g c : Nat} {xs : List S149} (h : AttrsAt w (some ⟨g, 0, none⟩) c xs) (hb : w'.heap[g]? = w.heap[g]?) : AttrsAt w' (some ⟨g, 0, none⟩) c xs := by
 refine ⟨h.1, h.2.1, h.2.2.1, h.2.2.2.1, fun hn => ?_⟩
 obtain ⟨ad, e, hc⟩ := h.2.2.2.2 hn
 cases e
 refine ⟨_, rfl, fun j p hj => ?_⟩
 obtain ⟨cs, h1, h2, h3⟩ := hc j p hj
 refine ⟨cs, h1, h2, fun i u hu => ?_⟩
 have := h3 i u hu
 rw [add_head] at this ⊢
 exact (World.cell?_of_block (w := w) hb).trans this
theorem attr_do_old (w : World) (g : Nat) (ns : List S95) (bs : List Nat) (C : Chg) (A : Option Addr) (c : Nat) (hg : GMap w g ns bs) (hl : bs.length = ns.length) (hd : (ns.map (·.f0)).Nodup) (j : Nat) (hp : place ns C.f1 = some j) (n : S95) (A1 : Option Addr) (c1 : Nat) (kv1 up1 : Value) (pl1 : Int) (ht : TwigB w (bs.getD j 0) n A1 c1 kv1 up1 pl1) (ha : AttrsAt w A1 c1 n.f3) (i : Nat) (hi : idxA C.f4 n.f3 = some i) (hil : i < n.f3.length) :
  Calls Tryz.prog 167 #[chv C A c, .pointer (some ⟨g, 0, none⟩)] w fun e w' => e = .returned (chv ⟨4, C.f1, 0, 0, C.f4, n.f3[i].f1, i, []⟩ none 0) ∧ ∃ A' c', AttrsAt w' A' c' (n.f3.set i ⟨n.f3[i].f0, C.f5⟩) ∧ Only w w' (bs.getD j 0) (twigCells (withAttrs n (n.f3.set i ⟨n.f3[i].f0, C.f5⟩)) A' c' kv1 up1 pl1) 99 := by
 have hut := Tryz.underlying33
 have hua := Tryz.underlying149
 have HL := am (And.intro hl hd)
 have HG := am hg
 have HLK := am (show lkv ns bs C.f1 = .pointer (some ⟨bs.getD j 0, 0, none⟩) by unfold lkv; rw [hp]; rfl)
 have HTW := am ht
 have HA := am ha
 have HAT := am (fun W A5 c5 (hC : Kd.C k149 W A5 n.f3.length n.f3) => (attrAt_calls n.f3 A5 c5 W hC (by have := ha.1; omega) C.f4).mono (fun e w' h => (⟨by rw [h.1, hi]; rfl, h.2⟩ : e = .returned (.int .i64 (i : Int)) ∧ Below W.heap.size W w')))
 obtain ⟨av, hav⟩ : ∃ av, av = n.f3[i].f1 := ⟨_, rfl⟩
 rw [← hav]
 have HAV := am hav
 clear hav
 obtain ⟨bj, hbj⟩ : ∃ bj, bj = bs.getD j 0 := ⟨_, rfl⟩
 rw [← hbj] at HTW HLK ⊢
 clear hg hl hd hp ht hbj ha hi
 go_enter Tryz.func167, Tryz.ntmps167
 go_wp2_with fail
 generalize hw1 : World.alloc _ _ = w1
 have h1 : Below w.heap.size w w1 ∧ w1.heap[w.heap.size]? = some (mbox8 C A c 162) ∧ w1.heap[w.heap.size + 1]? = some (mbox8 ⟨0, 0, 0, 0, ⟨#[]⟩, ⟨#[]⟩, 0, []⟩ none 0 33) ∧ w1.heap.size = w.heap.size + 2 := by
  subst hw1
  refine ⟨((Below.refl _ w).alloc (Nat.le_refl _) _).alloc (by simp) _, blk_below (blk_newest w _) ((Below.refl _ _).alloc (Nat.le_refl _) _), ?_, by simp⟩
  have := blk_newest (w.alloc (mbox8 C A c 162)) (mbox8 ⟨0, 0, 0, 0, ⟨#[]⟩, ⟨#[]⟩, 0, []⟩ none 0 33)
  exact (congrArg (fun k => ((w.alloc (mbox8 C A c 162)).alloc (mbox8 ⟨0, 0, 0, 0, ⟨#[]⟩, ⟨#[]⟩, 0, []⟩ none 0 33)).heap[k]?) (by simp : (w.alloc (mbox8 C A c 162)).heap.size = w.heap.size + 1)).symm.trans this
 have H1 := am h1
 obtain ⟨x0, x1, x2, x3, x4, x5, x6, x7⟩ := cells8t h1.2.1
 obtain ⟨mb, _, hm, hq⟩ := (HG.out.below h1.1).look HL.out HLK.out
 clear h1 hw1
 go_quiet (fail)
 obtain ⟨w2, hw2⟩ : ∃ w2, w2 = w1.drewN nq := ⟨_, rfl⟩
 have H2 := am (show Below w.heap.size w w2 ∧ w2.heap = w1.heap from ⟨hw2 ▸ pw_below_drewN H1.out.1 _, hw2 ▸ rfl⟩)
 rw [← hw2]
 clear x0 x1 x2 x3 x4 x5 x6 x7 hm hq hw2
 have ht3 : w2.cell? ⟨bj, 3, none⟩ = some (.slice A1 n.f3.length c1) := blk_cell (blk_below HTW.out H2.out.1) 3
 have HCL := am (clone_calls A1 c1 n.f3 w2 (HA.out.below H2.out.1).2.2 HA.out.2.1 (fun e => attrs_nil HA.out.2.2 e) HA.out.1)
 go_wp2_with (first | ((with_reducible refine gate_store (t := 93) (p := 26) rfl ?_); refine store_event (t := 93) (p := 26) (v := ?vo) (w1 := w3.setCell ⟨bj, 3, none⟩ (.slice (some ⟨g5, 0, none⟩) n.f3.length c5)) ?hg ?ho ?hn ?hr ?_; (case ho => rfl); (case hg => rfl); (case hn => rfl); (case hr => first | (go_simp; done) | (go_simp; rfl)); intro w4 hw4; have H4 := am (set_block hw4 HT3.out); clear hw4 ht3 htf3) | (go_at_call 111; refine HCL.out.mono ?_; rintro e w3 ⟨v5, rfl, hr5, hb5⟩; obtain ⟨A5, c5, rfl⟩ := Kd.R_slice hr5; obtain ⟨g5, cap5, e5, _⟩ := Kd.R_form hr5 (by omega); injection e5 with e6 _ e7; subst e6; subst e7; have HT3 := am (blk_below HTW.out (below_step H2.out.1 hb5)); have H3 := am (And.intro hb5 hr5); replace ht3 := (twig_cells HT3.out).1.2.2.2.1; have htf3 := blk_frozen HT3.out 3; clear hb5 hr5))
 have hbl := blk_lt HTW.out
 have hsz2 : w2.heap.size = w.heap.size + 2 := by rw [H2.out.2]; exact H1.out.2.2.2
 have HT4 := am (show TwigB w4 bj n (some ⟨g5, 0, none⟩) c5 kv1 up1 pl1 from H4.out.1)
 have HR4 := am (show Kd.R k149 149 w4 w2.heap.size (fun _ => True) (.slice (some ⟨g5, 0, none⟩) n.f3.length c5) n.f3 from Kd.R_mono (Kd.R_move (Kd.R_bound H3.out.2) (fun k hk => H4.out.2.1 k (by have := hk.2.1; omega))) (fun _ _ => trivial))
 have HX4 := am (show w4.heap[w.heap.size]? = some (mbox8 C A c 162) from (H4.out.2.1 _ (by omega)).trans (blk_below (by rw [H2.out.2]; exact H1.out.2.1) H3.out.1))
 have HZ4 := am (show w4.heap[w.heap.size + 1]? = some (mbox8 ⟨0, 0, 0, 0, ⟨#[]⟩, ⟨#[]⟩, 0, []⟩ none 0 33) from (H4.out.2.1 _ (by omega)).trans (blk_below (by rw [H2.out.2]; exact H1.out.2.2.1) H3.out.1))
 have HB4 := am (show bj < w.heap.size ∧ w2.heap.size = w.heap.size + 2 ∧ w2.heap.size ≤ w4.heap.size ∧ (∀ k, k < w.heap.size → k ≠ bj → w4.heap[k]? = w.heap[k]?) ∧ ∀ B, B ≤ bj → B ≤ w.heap.size → Below B w w4 from
  ⟨hbl, hsz2, by rw [H4.out.2.2.1]; exact H3.out.1.size, fun k hk hkb => (H4.out.2.1 k hkb).trans ((H3.out.1.block k (by omega)).trans (H2.out.1.block k hk)), fun B h1 h2 => H4.out.2.2.2 _ _ ((H2.out.1.mono h2).trans (H3.out.1.mono (by omega))) h1⟩)
 clear hbl hsz2 H4 H3 HT3 HCL
 obtain ⟨x0, x1, x2, x3, x4, x5, x6, x7⟩ := cells8t HX4.out
 have ht3 : w4.cell? ⟨bj, 3, none⟩ = some (.slice (some ⟨g5, 0, none⟩) n.f3.length c5) := blk_cell HT4.out 3
 go_still_tail 7, (by kernel_rfl)
 change wpList _ _ _ _ _ w4.drew
 have HC5 := am (show Kd.C k149 w4.drew (some ⟨g5, 0, none⟩) n.f3.length n.f3 from (Kd.R_reads' HR4.out).2.2)
 go_wp2_with (first | (go_at_call 169; refine (HAT.out _ _ _ HC5.out).mono ?_; rintro e w5 ⟨rfl, hb5⟩; have H5 := am (show Below w4.heap.size w4 w5 from ((Below.refl _ w4).drew).trans hb5); clear hb5 x0 x1 x2 x3 x4 x5 x6 x7 ht3))
 have HX5 := am (blk_below HX4.out H5.out)
 have HZ5 := am (blk_below HZ4.out H5.out)
 have HT5 := am (blk_below HT4.out H5.out)
 have HR5 := am (Kd.R_below HR4.out H5.out)
 obtain ⟨ad, e, ha0, ha1⟩ := at_T149 (Kd.R_reads' HR5.out).2.2 (i : Int) (by omega) (by omega)
 cases e
 have hrd : rd_T149 n.f3 (i : Int) = n.f3[i] := by simp [rd_T149, hil]
 rw [hrd] at ha0 ha1
 simp only [Int.toNat_natCast, add_head] at ha0 ha1
 rw [← HAV.out] at ha1
 obtain ⟨x0, x1, x2, x3, x4, x5, x6, x7⟩ := cells8t HX5.out
 have ht3 : w5.cell? ⟨bj, 3, none⟩ = some (.slice (some ⟨g5, 0, none⟩) n.f3.length c5) := blk_cell HT5.out 3
 have hal : Below w5.heap.size w5 (w5.alloc (.cells #[.int .i64 0, .int .i64 0, .int .i64 0, .int .i64 0, .string ⟨#[]⟩, .string ⟨#[]⟩, .int .i64 0, .slice none 0 0] 33)) := (Below.refl _ w5).alloc (Nat.le_refl _) _
 have y1 := pw_cell_below hal x1
 have y4 := pw_cell_below hal x4
 have y3 := pw_cell_below hal ht3
 have ya := pw_cell_below hal ha1
 have hi1 : (0 : Int) ≤ (i : Int) := by omega
 have hi2 : (i : Int) < (n.f3.length : Int) := by omega
 clear hrd ha0 x0 x2 x3 x5 x6 x7 hal
 go_region
 generalize hw6 : World.drew (World.alloc _ _) = w6
 have h6 : Below w5.heap.size w5 w6 ∧ w6.heap[w5.heap.size]? = some (mbox8 ⟨4, C.f1, 0, 0, C.f4, av, i, []⟩ none 0 33) := by
  subst hw6
  exact ⟨((Below.refl _ w5).alloc (Nat.le_refl _) _).drew, blk_newest w5 (mbox8 ⟨4, C.f1, 0, 0, C.f4, av, i, []⟩ none 0 33)⟩
 obtain ⟨bc, hbc⟩ : ∃ bc, bc = w5.heap.size := ⟨_, rfl⟩
 have hg5 : w2.heap.size ≤ g5 ∧ g5 < w4.heap.size := ⟨Kd.R_base HR4.out g5 (by simp [Value.ownBlock]), Kd.R_lt HR4.out g5 (by simp [Value.ownBlock])⟩
 have hal6 : Below w4.heap.size w4 w6 := below_step H5.out h6.1
 have H6 := am (show Below w4.heap.size w4 w6 ∧ w6.heap[w.heap.size]? = some (mbox8 C A c 162) ∧ w6.heap[w.heap.size + 1]? = some (mbox8 ⟨0, 0, 0, 0, ⟨#[]⟩, ⟨#[]⟩, 0, []⟩ none 0 33) ∧ w6.heap[bc]? = some (mbox8 ⟨4, C.f1, 0, 0, C.f4, av, i, []⟩ none 0 33) ∧ TwigB w6 bj n (some ⟨g5, 0, none⟩) c5 kv1 up1 pl1 ∧ Kd.R k149 149 w6 w2.heap.size (fun _ => True) (.slice (some ⟨g5, 0, none⟩) n.f3.length c5) n.f3 ∧ w4.heap.size ≤ bc ∧ w2.heap.size ≤ g5 ∧ g5 < w4.heap.size from
  ⟨hal6, blk_below HX4.out hal6, blk_below HZ4.out hal6, hbc ▸ h6.2, blk_below HT4.out hal6, Kd.R_below HR4.out hal6, hbc ▸ H5.out.size, hg5⟩)
 rw [← hbc]
 clear x1 x4 y1 y4 y3 ya hw6 h6 hbc ha1 hal6 hg5
 obtain ⟨x0, x1, x2, x3, x4, x5, x6, x7⟩ := cells8t H6.out.2.1
 have ht3 : w6.cell? ⟨bj, 3, none⟩ = some (.slice (some ⟨g5, 0, none⟩) n.f3.length c5) := blk_cell H6.out.2.2.2.2.1 3
 obtain ⟨ad, e, ha0, ha1⟩ := at_T149 (Kd.R_reads' H6.out.2.2.2.2.2.1).2.2 (i : Int) (by omega) (by omega)
 cases e
 simp only [Int.toNat_natCast, add_head] at ha1
 obtain ⟨av', hav'⟩ : ∃ av', av' = (rd_T149 n.f3 (i : Int)).f1 := ⟨_, rfl⟩
 rw [← hav'] at ha1
 have hic : i < c5 := by have := (Kd.R_reads' H6.out.2.2.2.2.2.1).2.1; omega
 have haf := (Sl.row_cells H6.out.2.2.2.2.2.1 (i * 2 + 1) (by show i * 2 + 1 < c5 * 2; omega)).2
 clear x0 x1 x2 x3 x4 x6 x7 ha0 hav' hic
 go_wp2_with fail
 go_region
 generalize hw7 : World.drew (World.setCell _ _ _) = w7
 have h7 : w7.heap.size = w6.heap.size ∧ (∀ k, k ≠ g5 → w7.heap[k]? = w6.heap[k]?) ∧ (∀ B, B ≤ g5 → ∀ w0, Below B w0 w6 → Below B w0 w7) ∧ AttrsAt w7 (some ⟨g5, 0, none⟩) c5 (n.f3.set i ⟨n.f3[i].f0, C.f5⟩) := by
  obtain ⟨_, hnc, hC6⟩ := Kd.R_reads' H6.out.2.2.2.2.2.1
  obtain ⟨cs, hcs⟩ : ∃ cs, w6.heap[g5]? = some (.cells cs 149 (0, 0)) := Kd.R_typed H6.out.2.2.2.2.2.1 g5 (by simp [Value.ownBlock])
  obtain ⟨s1, s2, s3, s4⟩ := set_block rfl hcs (j := i * 2 + 1) (v := .string C.f5)
  subst hw7
  have hcell : ∀ (W : World) (a : Addr), W.drew.cell? a = W.cell? a := fun W a => rfl
  refine ⟨s3, s2, fun B hB w0 h0 => (s4 B w0 h0 hB).drew, by have := HA.out.1; simpa using this, by simpa using hnc, ?_⟩
  have := attr_put (w' := (w6.setCell ⟨g5, i * 2 + 1, none⟩ (.string C.f5)).drew) (s := C.f5) hC6 hil ?_ (fun k hk => ?_)
  ·simpa using this
  ·rw [hcell, blk_cell s1 (i * 2 + 1), Array.getElem?_setIfInBounds_self_of_lt]
   have h8 := blk_cell hcs (i * 2 + 1)
   rw [ha1] at h8
   exact (Array.getElem?_eq_some_iff.1 h8.symm).1
  ·rw [hcell, blk_cell s1 k, blk_cell hcs k, Array.getElem?_setIfInBounds_ne (fun e => hk e.symm)]
 have H7 := am h7
 clear hw7 h7 ha1 haf ht3 x5
 have HC7 := am ((H7.out.2.1 bc (by have := H6.out; omega)).trans H6.out.2.2.2.1)
 have HZ7 := am ((H7.out.2.1 (w.heap.size + 1) (by have := H6.out; have := HB4.out; omega)).trans H6.out.2.2.1)
 have HT7 := am ((H7.out.2.1 bj (by have := H6.out; have := HB4.out; omega)).trans H6.out.2.2.2.2.1)
 obtain ⟨y0, y1, y2, y3, y4, y5, y6, y7⟩ := cells8t HC7.out
 obtain ⟨z0, z1, z2, z3, z4, z5, z6, z7⟩ := cells8t HZ7.out
 have hzf := fun k => blk_frozen HZ7.out k
 go_wp2_with fail
 generalize hw8 : World.setCell _ _ _ = w8
 have h8 := set8 (C := ⟨4, C.f1, 0, 0, C.f4, av, i, []⟩) (A := none) (c := 0) HZ7.out hw8.symm
 clear hw8 y0 y1 y2 y3 y4 y5 y6 y7 z0 z1 z2 z3 z4 z5 z6 z7 hzf
 obtain ⟨z0, z1, z2, z3, z4, z5, z6, z7⟩ := cells8t h8.1
 refine bodyPost_ret (v := chv ⟨4, C.f1, 0, 0, C.f4, av, i, []⟩ none 0) (by simp [results, Tryz.results167, go_sem, z0, z1, z2, z3, z4, z5, z6, z7, hut]) rfl ⟨rfl, some ⟨g5, 0, none⟩, c5, ?_, ?_⟩
 ·have h := H6.out
  have h4 := HB4.out
  exact attrs_keep H7.out.2.2.2 (h8.2.1 g5 (by omega))
 ·have h := H6.out
  have h4 := HB4.out
  have hs := h.1.size
  refine ⟨by rw [h8.2.2.1, H7.out.1]; omega, fun k hk hkb => ?_, ?_, fun B hB hB2 => ?_⟩
  ·rw [h8.2.1 k (by omega), H7.out.2.1 k (by omega), h.1.block k (by omega)]
   exact h4.2.2.2.1 k hk hkb
  ·refine (h8.2.1 bj (by omega)).trans (HT7.out.trans ?_)
   simp [twigCells, withAttrs]
  ·exact h8.2.2.2 _ _ (H7.out.2.2.1 B (by omega) _ ((h4.2.2.2.2 B hB hB2).trans (h.1.mono (by omega)))) (by omega)
end Go.Proofs.YthjgohbkpjhkeaaGreatDoor.Impl
set_option maxHeartbeats 4000000
set_option maxRecDepth 100000
namespace Go.Proofs.YthjgohbkpjhkeaaGreatDoor.Sl
open Go.RowKit Go.Lib Go.Proofs.YthjgohbkpjhkeaaGreatDoorW.PrintWords Go.Proofs.YthjgohbkpjhkeaaGreatDoorW.PrintLast Go.Proofs.YthjgohbkpjhkeaaGreatDoorW.PrintMore Go.Proofs.YthjgohbkpjhkeaaGreatDoor.PFnExactDo Go.Proofs.YthjgohbkpjhkeaaGreatDoor.Impl
theorem infoIA : (Tryz.prog.info? 149).map (fun i => (i.zero, i.size, i.bytes)) = some (some (.agg #[.string ⟨#[]⟩, .string ⟨#[]⟩]), 2, 32) := by kernel_rfl
theorem insA_end (w : World) (base : Nat) (v : Value) (n vb : Nat) (inner cs : List Value) (ho : w.ownsRow base 149 2 v n inner) (hv : w.heap[vb]? = some (.cells cs.toArray 149 (0, 0))) (hcl : cs.length = 2) (h1 : ∀ u ∈ cs, u.oneCell' = true) (hb : base ≤ w.heap.size) (hn : n ≤ 1000000000) :
  Calls Tryz.prog 170 #[v, .int .i64 n, .slice (some ⟨vb, 0, none⟩) 1 1] w fun e w' => ∃ v', e = .returned v' ∧ w'.ownsRow base 149 2 v' (n + 1) (inner ++ cs) ∧ w.grownBy w' v.ownBlock ∧ (v'.ownBlock = v.ownBlock ∨ v'.ownBlock = some w.heap.size) := by
 obtain ⟨i0, hi, hz0, hz1, hz2⟩ := info_parts infoIA
 have HO := am ho
 obtain ⟨A, c, rfl, hnc⟩ : ∃ A c, v = .slice A n c ∧ n ≤ c := by
  rcases ho.2 with ⟨h, h0⟩ | ⟨g, cap, cur, h, _, _, h0, _⟩
  ·exact ⟨none, 0, by rw [h, h0], by omega⟩
  ·exact ⟨_, _, h, h0⟩
 have hcm : c ≤ 9223372036854775807 := by
  rcases ho.2 with ⟨h, h0⟩ | ⟨g, cap, cur, h, _, _, _, h0, _⟩
  ·injection h with _ _ h; omega
  ·injection h with _ _ h; subst h; unfold maxLen at h0; exact h0
 have hut := Tryz.underlying93
 have hnn : (n : Int) ≤ c := by omega
 clear ho
 go_enter Tryz.func170, Tryz.ntmps170
 go_wp2_with (first | (at_builtin; refine wpList_append_own_at _ (by rfl) (.tmp 23) (.tmp 24) 93 (by rfl) base 149 i0 (.agg #[.string ⟨#[]⟩, .string ⟨#[]⟩]) 2 32 Tryz.underlying93 hi hz0 hz1 hz2 (by rfl) (by decide) _ n inner (by rfl) HO.out ⟨vb, 0, none⟩ 1 1 cs (by rfl) (by simpa using hcl) (fun j u hj => by rw [add_at, Nat.zero_add, blk_cell hv]; simpa using hj) h1 (by unfold maxLen; omega) (by omega) hb ?_; intro v1 w1 k1 k2 k3 k4; have K := am (And.intro k1 (And.intro k2 k4)); clear k1 k2 k3 k4))
 all_goals (go_ret; first | exact ⟨_, rfl, K.out.1, K.out.2.1, K.out.2.2⟩ | ((have h : c = n := by assumption); subst h; exact ⟨_, rfl, K.out.1, K.out.2.1, K.out.2.2⟩))
theorem insA_shift (w : World) (base : Nat) (g n c i vb : Nat) (inner cs : List Value) (ho : w.ownsRow base 149 2 (.slice (some ⟨g, 0, none⟩) n c) n inner) (hv : w.heap[vb]? = some (.cells cs.toArray 149 (0, 0))) (hcl : cs.length = 2) (h1 : ∀ u ∈ cs, u.oneCell' = true) (h1i : ∀ u ∈ inner, u.oneCell' = true) (hi : i < n) (hroom : n + 1 ≤ c) (hne : vb ≠ g) :
  Calls Tryz.prog 170 #[.slice (some ⟨g, 0, none⟩) n c, .int .i64 i, .slice (some ⟨vb, 0, none⟩) 1 1] w fun e w' => e = .returned (.slice (some ⟨g, 0, none⟩) (n + 1) c) ∧ w'.ownsRow base 149 2 (.slice (some ⟨g, 0, none⟩) (n + 1) c) (n + 1) (splice i 2 inner cs) ∧ Kept w w' (fun k => k = g) ∧ (∀ B, B ≤ g → B ≤ w.heap.size → Below B w w') := by
 obtain ⟨i0, hi0, hz0, hz1, hz2⟩ := info_parts infoIA
 obtain ⟨cur, hbg, hh, hcm, hcs, hct⟩ : ∃ cur, base ≤ g ∧ w.heap[g]? = some (.cells cur 149 (0, 0)) ∧ c ≤ maxLen ∧ cur.size = c * 2 ∧ cur.toList.take (n * 2) = inner := by
  rcases ho.2 with ⟨h, h0⟩ | ⟨g', cap, cur, h, h2, h3, _, h5, h6, h7⟩
  ·cases h
  ·injection h with ha _ hc
   injection ha with ha
   injection ha with ha
   subst ha
   subst hc
   exact ⟨cur, h2, h3, h5, h6, h7⟩
 have hil := ho.1
 unfold maxLen at hcm
 have hsz : (Tryz.prog.info? 149).map (·.size) = some 2 := by rw [hi0]; simp [hz1]
 have hgi : ∀ j, j < n * 2 → cur[j]? = inner[j]? := fun j hj => by
  rw [← hct, List.getElem?_take, if_pos hj, Array.getElem?_toList]
 have hcell : ∀ j, j < c * 2 → (w.cell? ⟨g, j, none⟩).isSome = true := fun j hj => by
  rw [blk_cell hh j, Array.getElem?_eq_getElem (by omega)]; rfl
 have hfz : ∀ j, w.frozen? ⟨g, j, none⟩ = false := fun j => blk_frozen hh j
 have hin : ∀ j v, inner[j]? = some v → w.cell? ⟨g, j, none⟩ = some v := fun j v hj => by
  have hlt : j < inner.length := (List.getElem?_eq_some_iff.1 hj).1
  rw [blk_cell hh j, hgi j (by omega)]; exact hj
 have hvc : ∀ j v, cs[j]? = some v → w.cell? ⟨vb, j, none⟩ = some v := fun j v hj => by rw [blk_cell hv j]; simpa using hj
 have hdl : (inner.drop (i * 2)).length = n * 2 - i * 2 := by rw [List.length_drop, hil]; try omega
 have hov : ∀ lb cb, (callFunc 174 #[.slice (some ⟨vb, 0, none⟩) 1 1, .slice (some ⟨g, (i + 1) * 2, none⟩) lb cb]).run Tryz.prog w = .ok (.value (.bool false)) w := fun lb cb => by
  rw [run_callFunc_extern Tryz.func174 (by kernel_rfl) (by kernel_rfl) (by kernel_rfl) (e := Extern.SlicesOverlaps.overlaps #[93, 93] #[4]) (by kernel_rfl),
   Lib.run_overlaps_apart w 93 4 149 Tryz.underlying93 2 (fun w => by kernel_rfl) ⟨vb, 0, none⟩ ⟨g, (i + 1) * 2, none⟩ 1 1 lb cb hne 149 149 2 (c * 2) (shape_of hv (by simp [hcl])) (shape_of hh (by simp [hcs])) (by omega) (blk_frozen hv 0) (blk_frozen hv _)]
  rfl
 have hcp1 : ∀ ty dc sc, (Builtin.copy_ #[93, 93] ty #[.slice (some ⟨g, (i + 1) * 2, none⟩) (n - i) dc, .slice (some ⟨g, i * 2, none⟩) (n + 1 - i) sc]).run Tryz.prog w.drew = .ok (goInt (Nat.min (n + 1 - i) (n - i))) (w.drew.setCells g ((i + 1) * 2) (inner.drop (i * 2))) := fun ty dc sc =>
  run_copy_sz w.drew 2 _ _ ty 149 g ((i + 1) * 2) (n - i) dc ⟨g, i * 2, none⟩ (n + 1 - i) sc (inner.drop (i * 2)) Tryz.underlying93 hsz (by rw [hdl]; simp only [Nat.min_def]; split <;> omega)
   (fun j v hj => by rw [add_at]; rw [List.getElem?_drop] at hj; exact hin _ v (by simpa using hj))
   (fun j hj => hcell _ (by rw [hdl] at hj; omega)) (fun j hj => hfz _) (fun v hv => h1i v (List.mem_of_mem_drop hv))
 obtain ⟨cur1, hh1, hs1, hg1⟩ := setCells_get (g := g) (e := 149) (cs := inner.drop (i * 2)) (o := (i + 1) * 2) (w := w.drew) hh (by rw [hdl]; omega)
 have hcp2 : ∀ (W : World), W.heap = (w.drew.setCells g ((i + 1) * 2) (inner.drop (i * 2))).heap → ∀ ty dc, (Builtin.copy_ #[93, 93] ty #[.slice (some ⟨g, i * 2, none⟩) (n + 1 - i) dc, .slice (some ⟨vb, 0, none⟩) 1 1]).run Tryz.prog W = .ok (goInt (Nat.min 1 (n + 1 - i))) (W.setCells g (i * 2) cs) := fun W hW ty dc => by
  have hhW : W.heap[g]? = some (.cells cur1 149 (0, 0)) := by rw [hW]; exact hh1
  have hvW : W.heap[vb]? = some (.cells cs.toArray 149 (0, 0)) := by rw [hW, setCells_far _ _ _ hne]; exact hv
  refine run_copy_sz W 2 _ _ ty 149 g (i * 2) (n + 1 - i) dc ⟨vb, 0, none⟩ 1 1 cs Tryz.underlying93 hsz (by rw [hcl]; simp only [Nat.min_def]; split <;> omega)
   (fun j v hj => by rw [add_at, Nat.zero_add, blk_cell hvW]; simpa using hj)
   (fun j hj => by rw [blk_cell hhW, Array.getElem?_eq_getElem (by omega)]; rfl) (fun j hj => blk_frozen hhW _) h1
 have HE := am (show ∀ W : World, W.heap = ((w.drew.setCells g ((i + 1) * 2) (inner.drop (i * 2))).setCells g (i * 2) cs).heap → W.ownsRow base 149 2 (.slice (some ⟨g, 0, none⟩) (n + 1) c) (n + 1) (splice i 2 inner cs) from fun W hW => by
  obtain ⟨cur2, hh2, hs2, hg2⟩ := setCells_get (g := g) (e := 149) (cs := cs) (o := i * 2) (w := w.drew.setCells g ((i + 1) * 2) (inner.drop (i * 2))) hh1 (by omega)
  refine ⟨by unfold splice; rw [List.length_append, List.length_append, List.length_take, List.length_drop, hcl, hil]; omega, .inr ⟨g, c, cur2, rfl, hbg, by rw [hW]; exact hh2, hroom, by unfold maxLen; exact hcm, by omega, ?_⟩⟩
  refine splice_of (Nat.le_of_lt hi) hil hcl (by simp; omega) (fun j hj => ?_) (fun j hj => ?_) (fun j hj => ?_)
  ·rw [Array.getElem?_toList, hg2, if_neg (by omega), hg1, if_neg (by omega)]; exact hgi j (by omega)
  ·rw [Array.getElem?_toList, hg2, if_pos (by omega)]; congr 1; omega
  ·rw [Array.getElem?_toList, hg2, if_neg (by omega), hg1, if_pos (by rw [hdl]; omega), List.getElem?_drop]; congr 1; omega)
 have hK := am (show Kept w ((w.drew.setCells g ((i + 1) * 2) (inner.drop (i * 2))).setCells g (i * 2) cs) (fun k => k = g) ∧ ∀ B, B ≤ g → B ≤ w.heap.size → Below B w ((w.drew.setCells g ((i + 1) * 2) (inner.drop (i * 2))).setCells g (i * 2) cs) from
  ⟨(setCells_kept w.drew g ((i + 1) * 2) (inner.drop (i * 2))).then_ (setCells_kept _ g (i * 2) cs) (fun k hk => .inl hk), fun B h1 h2 => (((Below.refl B w).drew).trans (setCells_below w.drew g ((i + 1) * 2) _ B h1 h2)).trans (setCells_below _ g (i * 2) cs B h1 (by rw [(setCells_same g _ _ _).2.2.2]; exact h2))⟩)
 have hut := Tryz.underlying93
 have hz2' : ¬ ((i : Int) = (n : Int)) := by omega
 have hr1 : ¬ ((c : Int) < (n : Int) + 1) := by omega
 have hr2 : n + 1 ≤ c := hroom
 have hi1 : (i : Int) ≤ n := by omega
 have hi2 : (i : Int) ≤ (n : Int) + 1 := by omega
 have hi3 : (i : Int) + 1 ≤ (n : Int) + 1 := by omega
 have hi4 : (0 : Int) ≤ (i : Int) + 1 := by omega
 have hi5 : (0 : Int) ≤ (n : Int) + 1 := by omega
 have hw1 : IntKind.i64.wrap ((i : Int) + 1) = (i : Int) + 1 := by rw [IntKind.wrap_i64]; omega
 have hw2 : IntKind.i64.wrap ((n : Int) + 1) = (n : Int) + 1 := by rw [IntKind.wrap_i64]; omega
 have ht1 : ((i : Int) + 1).toNat = i + 1 := by omega
 have ht2 : ((n : Int) + 1).toNat = n + 1 := by omega
 have hc1 : ¬ (c = i) := by omega
 have hc2 : ¬ (c = i + 1) := by omega
 have HV := am (And.intro h1 (And.intro h1i hil))
 clear hdl hg1 hs1 hh1 hgi hcell hfz hin hvc hct hcs hh hil ho h1 h1i hv hsz
 go_enter Tryz.func170, Tryz.ntmps170
 go_wp2_with (simp only [hov])
 go_region_law (refine step_copy_runI rfl _ _ 93 93 rfl _ _ (by simp [Act.eval, Act.put]) (by simp [Act.eval, Act.put]) (hcp1 _ _ _) ?_)
 go_wp2_with (at_builtin; refine wpList_copy_runI _ rfl _ _ 93 93 rfl _ _ rfl rfl (hcp2 _ rfl _ _) ?_)
 go_ret
 exact ⟨rfl, HE.out _ rfl, hK.out⟩
theorem insA_grow (w : World) (base : Nat) (g n c i vb : Nat) (inner cs : List Value) (ho : w.ownsRow base 149 2 (.slice (some ⟨g, 0, none⟩) n c) n inner) (hv : w.heap[vb]? = some (.cells cs.toArray 149 (0, 0))) (hcl : cs.length = 2) (h1 : ∀ u ∈ cs, u.oneCell' = true) (h1i : ∀ u ∈ inner, u.oneCell' = true) (hi : i < n) (hroom : c < n + 1) (hb : base ≤ w.heap.size) (hn : n ≤ 1000000000) :
  Calls Tryz.prog 170 #[.slice (some ⟨g, 0, none⟩) n c, .int .i64 i, .slice (some ⟨vb, 0, none⟩) 1 1] w fun e w' => ∃ G, e = .returned (.slice (some ⟨w.heap.size, 0, none⟩) (n + 1) G) ∧ w'.ownsRow base 149 2 (.slice (some ⟨w.heap.size, 0, none⟩) (n + 1) G) (n + 1) (splice i 2 inner cs) ∧ Below w.heap.size w w' := by
 obtain ⟨i0, hi0, hz0, hz1, hz2⟩ := info_parts infoIA
 obtain ⟨cur, hbg, hh, hnc, hcm, hcs, hct⟩ : ∃ cur, base ≤ g ∧ w.heap[g]? = some (.cells cur 149 (0, 0)) ∧ n ≤ c ∧ c ≤ maxLen ∧ cur.size = c * 2 ∧ cur.toList.take (n * 2) = inner := by
  rcases ho.2 with ⟨h, h0⟩ | ⟨g', cap, cur, h, h2, h3, h4, h5, h6, h7⟩
  ·cases h
  ·injection h with ha _ hc
   injection ha with ha
   injection ha with ha
   subst ha
   subst hc
   exact ⟨cur, h2, h3, h4, h5, h6, h7⟩
 have hil := ho.1
 unfold maxLen at hcm
 have hsz : (Tryz.prog.info? 149).map (·.size) = some 2 := by rw [hi0]; simp [hz1]
 have hgl := blk_lt hh
 have hvl := blk_lt hv
 have hgi : ∀ j, j < n * 2 → cur[j]? = inner[j]? := fun j hj => by
  rw [← hct, List.getElem?_take, if_pos hj, Array.getElem?_toList]
 have hin : ∀ j v, inner[j]? = some v → w.cell? ⟨g, j, none⟩ = some v := fun j v hj => by
  have hlt : j < inner.length := (List.getElem?_eq_some_iff.1 hj).1
  rw [blk_cell hh j, hgi j (by omega)]; exact hj
 have hdl : (inner.drop (i * 2)).length = n * 2 - i * 2 := by rw [List.length_drop, hil]; try omega
 have hkk : (n : Int) + 1 - (i : Int) = ((n + 1 - i : Nat) : Int) := by omega
 have hik : i + (n + 1 - i) = n + 1 := by omega
 have hold : (Builtin.firstCells i0.size i (.slice (some ⟨g, 0, none⟩) i c)).run Tryz.prog w.drew = .ok (inner.take (i * 2)).toArray w.drew := by
  rw [hz1]
  exact run_firstCells_some w.drew 2 i ⟨g, 0, none⟩ i c (inner.take (i * 2)) (by rw [List.length_take, hil]; omega) (fun j v hj => by
   rw [add_at, Nat.zero_add]
   rw [List.getElem?_take] at hj
   split at hj
   ·exact hin j v hj
   ·cases hj)
 have hrz : ∀ ty, (Builtin.append_ #[93, 3] ty #[.slice (some ⟨g, 0, none⟩) i c, .int .i64 ((n : Int) + 1 - (i : Int))]).run Tryz.prog w =
   .ok (.slice (some ⟨w.heap.size, 0, none⟩) (n + 1) (grownCap w (n + 1) c 149)) (w.drew.alloc (.cells ((inner.take (i * 2)).toArray ++ Builtin.zeroCells ((.agg #[.string ⟨#[]⟩, .string ⟨#[]⟩]) : Value).cells (n + 1 - i) ++ Builtin.zeroCells ((.agg #[.string ⟨#[]⟩, .string ⟨#[]⟩]) : Value).cells (grownCap w (n + 1) c 149 - (n + 1))) 149)) := fun ty => by
  have h := Lib.run_append_grow_zeros w 93 3 ty 149 i0 (.agg #[.string ⟨#[]⟩, .string ⟨#[]⟩]) .i64 .i64 Tryz.underlying93 Tryz.underlying3 hi0 hz0 (some ⟨g, 0, none⟩) i c (inner.take (i * 2)) hold (n + 1 - i) (by omega) (by rw [hz1]; omega) (by omega) (by omega) (by rw [hz2]; omega) (by rw [hz2, hik]; exact growslice_fits hroom (by omega))
  rw [hik] at h
  rw [hkk]
  exact h
 obtain ⟨G, hG⟩ : ∃ G, G = grownCap w (n + 1) c 149 := ⟨_, rfl⟩
 have hGn : n + 1 ≤ G := by rw [hG]; exact grownCap_ge w _ _ _
 have hG63 : G ≤ 9223372036854775807 := by
  have := grownCap_le_maxLen w (n + 1) c 149 (by unfold maxLen; omega)
  rw [← hG] at this
  unfold maxLen at this
  omega
 obtain ⟨ROW, hROW⟩ : ∃ ROW : Array Value, ROW = (inner.take (i * 2)).toArray ++ Builtin.zeroCells ((.agg #[.string ⟨#[]⟩, .string ⟨#[]⟩]) : Value).cells (n + 1 - i) ++ Builtin.zeroCells ((.agg #[.string ⟨#[]⟩, .string ⟨#[]⟩]) : Value).cells (G - (n + 1)) := ⟨_, rfl⟩
 rw [← hG] at hrz
 rw [← hROW] at hrz
 have hRl : ROW.size = G * 2 := by
  rw [hROW]
  simp [Builtin.zeroCells, Value.cells, hil]
  omega
 have hR0 : ∀ j, j < i * 2 → ROW[j]? = inner[j]? := fun j hj => by
  rw [hROW, Array.append_assoc, Array.getElem?_append_left (by simp [hil]; omega)]
  rw [List.getElem?_toArray, List.getElem?_take, if_pos (by omega)]
 have hn1 : (w.drew.alloc (.cells ROW 149)).heap[w.heap.size]? = some (.cells ROW 149 (0, 0)) := MapLib.blk_newest w.drew _
 have hv1 : (w.drew.alloc (.cells ROW 149)).heap[vb]? = some (.cells cs.toArray 149 (0, 0)) := by show (w.heap.push _)[vb]? = _; rw [Array.getElem?_push, if_neg (by omega)]; exact hv
 have hg1 : (w.drew.alloc (.cells ROW 149)).heap[g]? = some (.cells cur 149 (0, 0)) := by show (w.heap.push _)[g]? = _; rw [Array.getElem?_push, if_neg (by omega)]; exact hh
 have hcpA : ∀ (W : World), W.heap = (w.drew.alloc (.cells ROW 149)).heap → ∀ ty dc, (Builtin.copy_ #[93, 93] ty #[.slice (some ⟨w.heap.size, i * 2, none⟩) (n + 1 - i) dc, .slice (some ⟨vb, 0, none⟩) 1 1]).run Tryz.prog W = .ok (goInt (Nat.min 1 (n + 1 - i))) (W.setCells w.heap.size (i * 2) cs) := fun W hW ty dc =>
  run_copy_sz W 2 _ _ ty 149 w.heap.size (i * 2) (n + 1 - i) dc ⟨vb, 0, none⟩ 1 1 cs Tryz.underlying93 hsz (by rw [hcl]; simp only [Nat.min_def]; split <;> omega)
   (fun j v hj => by rw [add_at, Nat.zero_add, blk_cell (by rw [hW]; exact hv1)]; simpa using hj)
   (fun j hj => by rw [blk_cell (by rw [hW]; exact hn1), Array.getElem?_eq_getElem (by omega)]; rfl) (fun j hj => blk_frozen (by rw [hW]; exact hn1) _) h1
 obtain ⟨cur1, hh1, hs1, hc1⟩ := setCells_get (g := w.heap.size) (e := 149) (cs := cs) (o := i * 2) (w := w.drew.alloc (.cells ROW 149)) hn1 (by omega)
 have hg2 : ((w.drew.alloc (.cells ROW 149)).setCells w.heap.size (i * 2) cs).heap[g]? = some (.cells cur 149 (0, 0)) := by rw [setCells_far _ _ _ (by omega)]; exact hg1
 have hcpB : ∀ (W : World), W.heap = ((w.drew.alloc (.cells ROW 149)).setCells w.heap.size (i * 2) cs).heap → ∀ ty dc sc, (Builtin.copy_ #[93, 93] ty #[.slice (some ⟨w.heap.size, (i + 1) * 2, none⟩) (n - i) dc, .slice (some ⟨g, i * 2, none⟩) (n - i) sc]).run Tryz.prog W = .ok (goInt (Nat.min (n - i) (n - i))) (W.setCells w.heap.size ((i + 1) * 2) (inner.drop (i * 2))) := fun W hW ty dc sc =>
  run_copy_sz W 2 _ _ ty 149 w.heap.size ((i + 1) * 2) (n - i) dc ⟨g, i * 2, none⟩ (n - i) sc (inner.drop (i * 2)) Tryz.underlying93 hsz (by rw [hdl]; simp only [Nat.min_def]; split <;> omega)
   (fun j v hj => by
    rw [add_at, blk_cell (by rw [hW]; exact hg2)]
    rw [List.getElem?_drop] at hj
    have hlt := (List.getElem?_eq_some_iff.1 hj).1
    rw [hgi _ (by omega)]
    exact hj)
   (fun j hj => by rw [blk_cell (by rw [hW]; exact hh1), Array.getElem?_eq_getElem (by omega)]; rfl) (fun j hj => blk_frozen (by rw [hW]; exact hh1) _) (fun v hv => h1i v (List.mem_of_mem_drop hv))
 have HE := am (show ∀ W : World, W.heap = (((w.drew.alloc (.cells ROW 149)).setCells w.heap.size (i * 2) cs).drew.setCells w.heap.size ((i + 1) * 2) (inner.drop (i * 2))).heap → W.ownsRow base 149 2 (.slice (some ⟨w.heap.size, 0, none⟩) (n + 1) G) (n + 1) (splice i 2 inner cs) from fun W hW => by
  obtain ⟨cur2, hh2, hs2, hc2⟩ := setCells_get (g := w.heap.size) (e := 149) (cs := inner.drop (i * 2)) (o := (i + 1) * 2) (w := ((w.drew.alloc (.cells ROW 149)).setCells w.heap.size (i * 2) cs).drew) hh1 (by rw [hdl]; omega)
  refine ⟨by unfold splice; rw [List.length_append, List.length_append, List.length_take, List.length_drop, hcl, hil]; omega, .inr ⟨w.heap.size, G, cur2, rfl, hb, by rw [hW]; exact hh2, hGn, by unfold maxLen; omega, by omega, ?_⟩⟩
  refine splice_of (Nat.le_of_lt hi) hil hcl (by simp; omega) (fun j hj => ?_) (fun j hj => ?_) (fun j hj => ?_)
  ·rw [Array.getElem?_toList, hc2, if_neg (by omega), hc1, if_neg (by omega)]; exact hR0 j (by omega)
  ·rw [Array.getElem?_toList, hc2, if_neg (by omega), hc1, if_pos (by omega)]; congr 1; omega
  ·rw [Array.getElem?_toList, hc2, if_pos (by rw [hdl]; omega), List.getElem?_drop]; congr 1; omega)
 have hK := am (show Below w.heap.size w (((w.drew.alloc (.cells ROW 149)).setCells w.heap.size (i * 2) cs).drew.setCells w.heap.size ((i + 1) * 2) (inner.drop (i * 2))) from
  ((((((Below.refl w.heap.size w).drew).alloc (Nat.le_refl _) _).trans (setCells_below _ _ (i * 2) cs _ (Nat.le_refl _) (by simp))).drew).trans (setCells_below _ _ ((i + 1) * 2) _ _ (Nat.le_refl _) (by show _ ≤ (World.setCells _ _ _ _).heap.size; rw [(setCells_same _ _ _ _).2.2.2]; simp))))
 have hut := Tryz.underlying93
 have hz2' : ¬ ((i : Int) = (n : Int)) := by omega
 have hr1 : (c : Int) < (n : Int) + 1 := by omega
 have hi1 : (i : Int) ≤ n := by omega
 have hi2 : (i : Int) ≤ (n : Int) + 1 := by omega
 have hi3 : (i : Int) + 1 ≤ (n : Int) + 1 := by omega
 have hi4 : (0 : Int) ≤ (i : Int) + 1 := by omega
 have hi5 : (0 : Int) ≤ (n : Int) + 1 := by omega
 have hi6 : (0 : Int) ≤ (n : Int) + 1 - (i : Int) := by omega
 have hi7 : i ≤ c := by omega
 have hw1 : IntKind.i64.wrap ((i : Int) + 1) = (i : Int) + 1 := by rw [IntKind.wrap_i64]; omega
 have hw2 : IntKind.i64.wrap ((n : Int) + 1) = (n : Int) + 1 := by rw [IntKind.wrap_i64]; omega
 have hw3 : IntKind.i64.wrap ((n : Int) + 1 - (i : Int)) = (n : Int) + 1 - (i : Int) := by rw [IntKind.wrap_i64]; omega
 have ht1 : ((i : Int) + 1).toNat = i + 1 := by omega
 have ht2 : ((n : Int) + 1).toNat = n + 1 := by omega
 have hc1' : ¬ (c = i) := by omega
 have hc2' : ¬ (G = i) := by omega
 have hc3' : ¬ (G = i + 1) := by omega
 have HV := am (And.intro h1 (And.intro h1i hil))
 have hE1 : ((w.alloc (.cells ROW 149)).drew).heap = (w.drew.alloc (.cells ROW 149)).heap := rfl
 clear hdl hc1 hs1 hh1 hg2 hg1 hv1 hn1 hgi hin hct hcs hh hil ho h1 h1i hv hsz hold hROW hRl hR0 hkk hik hgl hvl hG hG63
 go_enter Tryz.func170, Tryz.ntmps170
 go_wp2_with (first
  | (at_builtin; refine Lib.wpList_append_run _ rfl _ _ _ _ rfl _ _ rfl rfl _ _ (hrz _) ?_)
  | (at_builtin; refine wpList_copy_runI _ rfl _ _ 93 93 rfl _ _ rfl rfl (hcpA _ rfl _ _) ?_))
 go_region_law (refine step_copy_runI rfl _ _ 93 93 rfl (.slice (some ⟨w.heap.size, (i + 1) * 2, none⟩) (n - i) (G - (i + 1))) (.slice (some ⟨g, i * 2, none⟩) (n - i) (c - i)) (by simp [Act.eval, Act.put]) (by simp [Act.eval, Act.put]) (hcpB _ ?hW 3 (G - (i + 1)) (c - i)) ?_; (case hW => rfl))
 go_wp2
 go_ret
 exact ⟨_, rfl, HE.out _ rfl, hK.out⟩
theorem insA_calls (w : World) (base : Nat) (v : Value) (xs : List S149) (i vb : Nat) (p : S149) (ok : Nat → Prop) (hr : Kd.R k149 149 w base ok v xs) (hi : i ≤ xs.length) (hv : w.heap[vb]? = some (.cells #[.string p.f0, .string p.f1] 149 (0, 0))) (hne : v.ownBlock ≠ some vb) (hb : base ≤ w.heap.size) (hn : xs.length ≤ 1000000000) :
  Calls Tryz.prog 170 #[v, .int .i64 i, .slice (some ⟨vb, 0, none⟩) 1 1] w fun e w' => ∃ v', e = .returned v' ∧ Kd.R k149 149 w' base (fun _ => True) v' (xs.take i ++ p :: xs.drop i) ∧ Kept w w' (fun k => v.ownBlock = some k) ∧ (∀ B, B ≤ base → Below B w w') ∧ (v'.ownBlock = v.ownBlock ∨ ∃ k, v'.ownBlock = some k ∧ w.heap.size ≤ k) := by
 obtain ⟨hok, inner, ho, hre⟩ := hr
 obtain ⟨cs, hcs⟩ : ∃ cs : List Value, cs = [.string p.f0, .string p.f1] := ⟨_, rfl⟩
 have hv' : w.heap[vb]? = some (.cells cs.toArray 149 (0, 0)) := by rw [hcs]; exact hv
 have hcl : cs.length = 2 := by rw [hcs]; rfl
 have hp : (k149).M w base ok p cs := by rw [hcs]; exact k149_mkM _ _ _ _
 have h1 : ∀ u ∈ cs, u.oneCell' = true := by rw [hcs]; intro u hu; simp at hu; rcases hu with rfl | rfl <;> rfl
 rcases Nat.lt_or_ge i xs.length with hlt | hge
 ·have h1i := reps_ones hre
  rcases ho.2 with ⟨h, h0⟩ | ⟨g, cap, cur, rfl, hg, hh, hnc, _⟩
  ·omega
  ·have hob : (Value.slice (some (⟨g, 0, none⟩ : Addr)) xs.length cap).ownBlock = some g := by simp [Value.ownBlock]
   have hgv : vb ≠ g := fun e => hne (by rw [hob, e])
   rcases Nat.lt_or_ge cap (xs.length + 1) with hc | hc
   ·refine (insA_grow w base g xs.length cap i vb inner cs ho hv' hcl h1 h1i hlt hc hb hn).mono ?_
    rintro e w' ⟨G, rfl, h2, h3⟩
    exact ⟨_, rfl, splice_R flat_attr hre hp hi h2, Kept.of_below h3 _, fun B hB => h3.mono (Nat.le_trans hB hb), .inr ⟨w.heap.size, by simp [Value.ownBlock], Nat.le_refl _⟩⟩
   ·refine (insA_shift w base g xs.length cap i vb inner cs ho hv' hcl h1 h1i hlt hc hgv).mono ?_
    rintro e w' ⟨rfl, h2, h3, h4⟩
    exact ⟨_, rfl, splice_R flat_attr hre hp hi h2, h3.mono (fun k hk => by rw [hob, hk]), fun B hB => h4 B (Nat.le_trans hB hg) (Nat.le_trans hB hb), .inl (by simp [Value.ownBlock])⟩
 ·obtain rfl : i = xs.length := by omega
  refine (insA_end w base v xs.length vb inner cs ho hv' hcl h1 hb hn).mono ?_
  rintro e w' ⟨v', rfl, h2, h3, h4⟩
  rw [← splice_end (n := xs.length) (sz := 2) ho.1] at h2
  refine ⟨v', rfl, splice_R flat_attr hre hp (Nat.le_refl _) h2, Kept.of_grown h3 (Kept.refl w _) (fun k hk => .inl hk), fun B hB => (Below.refl B w).grown h3 (Nat.le_trans hB hb) (fun k hk => Nat.le_trans hB (own_base ho k hk)), ?_⟩
  rcases h4 with h4 | h4
  ·exact .inl h4
  ·exact .inr ⟨_, h4, Nat.le_refl _⟩
end Go.Proofs.YthjgohbkpjhkeaaGreatDoor.Sl
