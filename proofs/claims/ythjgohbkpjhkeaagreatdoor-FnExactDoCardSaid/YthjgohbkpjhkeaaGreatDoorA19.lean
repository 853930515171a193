/- Part 19 of the proof: DoAttrN, DoDone, DoOuts, DoKid, DoEndR. -/
import Derived.Test.YthjgohbkpjhkeaaGreatDoorA1
import Derived.Test.YthjgohbkpjhkeaaGreatDoorA18
import Derived.Deep.RegionWith
import Derived.Test.YthjgohbkpjhkeaaGreatDoorA15
import Derived.Test.YthjgohbkpjhkeaaGreatDoorA17
set_option linter.unusedVariables false
set_option linter.unusedSimpArgs false
set_option maxHeartbeats 4000000
set_option maxRecDepth 100000
namespace Go.Proofs.YthjgohbkpjhkeaaGreatDoor.Impl
open Go.RowKit Go.Proofs.YthjgohbkpjhkeaaGreatDoorW.PrintWords Go.Proofs.YthjgohbkpjhkeaaGreatDoorW.PrintLast Go.Proofs.YthjgohbkpjhkeaaGreatDoorW.PrintMore Go.Proofs.YthjgohbkpjhkeaaGreatDoor.PFnExactDo Go.Proofs.YthjgohbkpjhkeaaGreatDoor.MapLib Go.Proofs.YthjgohbkpjhkeaaGreatDoor.FireSpec Go.Proofs.YthjgohbkpjhkeaaGreatDoor.Tr Go.Proofs.YthjgohbkpjhkeaaGreatDoor.Fo
theorem attr_do_new (w : World) (g : Nat) (ns : List S95) (bs : List Nat) (C : Chg) (A : Option Addr) (c : Nat) (hg : GMap w g ns bs) (hl : bs.length = ns.length) (hd : (ns.map (·.f0)).Nodup) (j : Nat) (hp : place ns C.f1 = some j) (n : S95) (A1 : Option Addr) (c1 : Nat) (kv1 up1 : Value) (pl1 : Int) (ht : TwigB w (bs.getD j 0) n A1 c1 kv1 up1 pl1) (ha : AttrsAt w A1 c1 n.f3) (hi : idxA C.f4 n.f3 = none) (hlt : n.f3.length < 1000000000) (i : Nat) (hie : (i : Int) = if C.f6 < 0 ∨ (n.f3.length : Int) < C.f6 then (n.f3.length : Int) else C.f6) :
  Calls Tryz.prog 167 #[chv C A c, .pointer (some ⟨g, 0, none⟩)] w fun e w' => e = .returned (chv ⟨5, C.f1, 0, 0, C.f4, ⟨#[]⟩, 0, []⟩ none 0) ∧ ∃ A' c', AttrsAt w' A' c' (n.f3.take i ++ ⟨C.f4, C.f5⟩ :: n.f3.drop i) ∧ Only w w' (bs.getD j 0) (twigCells (withAttrs n (n.f3.take i ++ ⟨C.f4, C.f5⟩ :: n.f3.drop i)) A' c' kv1 up1 pl1) 99 := by
 have hut := Tryz.underlying33
 have hua := Tryz.underlying149
 have HL := am (And.intro hl hd)
 have HG := am hg
 have HLK := am (show lkv ns bs C.f1 = .pointer (some ⟨bs.getD j 0, 0, none⟩) by unfold lkv; rw [hp]; rfl)
 have HTW := am ht
 have HA := am ha
 have HAT := am (fun W A5 c5 (hC : Kd.C k149 W A5 n.f3.length n.f3) => (attrAt_calls n.f3 A5 c5 W hC (by have := ha.1; omega) C.f4).mono (fun e w' h => (⟨by rw [h.1, hi]; rfl, h.2⟩ : e = .returned (.int .i64 (-1)) ∧ Below W.heap.size W w')))
 have HLT := am hlt
 have HIE := am (And.intro hie (show i ≤ n.f3.length from by split at hie <;> omega))
 clear hie
 obtain ⟨XS, hXS⟩ : ∃ XS, XS = (n.f3.take i ++ (⟨C.f4, C.f5⟩ : S149) :: n.f3.drop i) := ⟨_, rfl⟩
 rw [← hXS]
 have HXS := am hXS
 clear hXS
 obtain ⟨bj, hbj⟩ : ∃ bj, bj = bs.getD j 0 := ⟨_, rfl⟩
 rw [← hbj] at HTW HLK ⊢
 clear hg hl hd hp ht hbj ha hi hlt
 go_enter Tryz.func167, Tryz.ntmps167
 go_wp2_with fail
 generalize hw1 : World.alloc _ _ = w1
 have h1 : Below w.heap.size w w1 ∧ w1.heap[w.heap.size]? = some (mbox8 C A c 162) ∧ w1.heap[w.heap.size + 1]? = some (mbox8 ⟨0, 0, 0, 0, ⟨#[]⟩, ⟨#[]⟩, 0, []⟩ none 0 33) ∧ w1.heap.size = w.heap.size + 2 := by
  subst hw1
  refine ⟨((Below.refl _ w).alloc (Nat.le_refl _) _).alloc (by simp) _, blk_below (blk_newest w _) ((Below.refl _ _).alloc (Nat.le_refl _) _), ?_, by simp⟩
  have := blk_newest (w.alloc (mbox8 C A c 162)) (mbox8 ⟨0, 0, 0, 0, ⟨#[]⟩, ⟨#[]⟩, 0, []⟩ none 0 33)
  exact (congrArg (fun k => ((w.alloc (mbox8 C A c 162)).alloc (mbox8 ⟨0, 0, 0, 0, ⟨#[]⟩, ⟨#[]⟩, 0, []⟩ none 0 33)).heap[k]?) (by simp : (w.alloc (mbox8 C A c 162)).heap.size = w.heap.size + 1)).symm.trans this
 have H1 := am h1
 obtain ⟨x0, x1, x2, x3, x4, x5, x6, x7⟩ := cells8t h1.2.1
 obtain ⟨mb, _, hm, hq⟩ := (HG.out.below h1.1).look HL.out HLK.out
 clear h1 hw1
 go_quiet (fail)
 obtain ⟨w2, hw2⟩ : ∃ w2, w2 = w1.drewN nq := ⟨_, rfl⟩
 have H2 := am (show Below w.heap.size w w2 ∧ w2.heap = w1.heap from ⟨hw2 ▸ pw_below_drewN H1.out.1 _, hw2 ▸ rfl⟩)
 rw [← hw2]
 clear x0 x1 x2 x3 x4 x5 x6 x7 hm hq hw2
 have ht3 : w2.cell? ⟨bj, 3, none⟩ = some (.slice A1 n.f3.length c1) := blk_cell (blk_below HTW.out H2.out.1) 3
 have HCL := am (clone_calls A1 c1 n.f3 w2 (HA.out.below H2.out.1).2.2 HA.out.2.1 (fun e => attrs_nil HA.out.2.2 e) HA.out.1)
 go_wp2_with (first | ((with_reducible refine gate_store (t := 93) (p := 26) rfl ?_); refine store_event (t := 93) (p := 26) (v := ?vo) (w1 := w3.setCell ⟨bj, 3, none⟩ (.slice A5 n.f3.length c5)) ?hg ?ho ?hn ?hr ?_; (case ho => rfl); (case hg => rfl); (case hn => rfl); (case hr => first | (go_simp; done) | (go_simp; rfl)); intro w4 hw4; have H4 := am (set_block hw4 HT3.out); clear hw4 ht3 htf3) | (go_at_call 111; refine HCL.out.mono ?_; rintro e w3 ⟨v5, rfl, hr5, hb5⟩; obtain ⟨A5, c5, rfl⟩ := Kd.R_slice hr5; have HT3 := am (blk_below HTW.out (below_step H2.out.1 hb5)); have H3 := am (And.intro hb5 hr5); replace ht3 := (twig_cells HT3.out).1.2.2.2.1; have htf3 := blk_frozen HT3.out 3; clear hb5 hr5))
 have hbl := blk_lt HTW.out
 have hsz2 : w2.heap.size = w.heap.size + 2 := by rw [H2.out.2]; exact H1.out.2.2.2
 have HT4 := am (show TwigB w4 bj n A5 c5 kv1 up1 pl1 from H4.out.1)
 have HR4 := am (show Kd.R k149 149 w4 w2.heap.size (fun _ => True) (.slice A5 n.f3.length c5) n.f3 from Kd.R_mono (Kd.R_move (Kd.R_bound H3.out.2) (fun k hk => H4.out.2.1 k (by have := hk.2.1; omega))) (fun _ _ => trivial))
 have HX4 := am (show w4.heap[w.heap.size]? = some (mbox8 C A c 162) from (H4.out.2.1 _ (by omega)).trans (blk_below (by rw [H2.out.2]; exact H1.out.2.1) H3.out.1))
 have HZ4 := am (show w4.heap[w.heap.size + 1]? = some (mbox8 ⟨0, 0, 0, 0, ⟨#[]⟩, ⟨#[]⟩, 0, []⟩ none 0 33) from (H4.out.2.1 _ (by omega)).trans (blk_below (by rw [H2.out.2]; exact H1.out.2.2.1) H3.out.1))
 have HB4 := am (show bj < w.heap.size ∧ w2.heap.size = w.heap.size + 2 ∧ w2.heap.size ≤ w4.heap.size ∧ (∀ k, k < w.heap.size → k ≠ bj → w4.heap[k]? = w.heap[k]?) ∧ ∀ B, B ≤ bj → B ≤ w.heap.size → Below B w w4 from
  ⟨hbl, hsz2, by rw [H4.out.2.2.1]; exact H3.out.1.size, fun k hk hkb => (H4.out.2.1 k hkb).trans ((H3.out.1.block k (by omega)).trans (H2.out.1.block k hk)), fun B h1 h2 => H4.out.2.2.2 _ _ ((H2.out.1.mono h2).trans (H3.out.1.mono (by omega))) h1⟩)
 clear hbl hsz2 H4 H3 HT3 HCL
 obtain ⟨x0, x1, x2, x3, x4, x5, x6, x7⟩ := cells8t HX4.out
 have ht3 : w4.cell? ⟨bj, 3, none⟩ = some (.slice A5 n.f3.length c5) := blk_cell HT4.out 3
 go_still_tail 7, (by kernel_rfl)
 change wpList _ _ _ _ _ w4.drew
 have HC5 := am (show Kd.C k149 w4.drew A5 n.f3.length n.f3 from (Kd.R_reads' HR4.out).2.2)
 have hn9 : (n.f3.length : Int) ≤ 1000000000 := by have := HA.out.1; omega
 have hlt1 : decide ((-1 : Int) ≥ 0) = false := rfl
 go_upto_region 9 with (first | (go_at_call 169; refine (HAT.out _ _ _ HC5.out).mono ?_; rintro e w5 ⟨rfl, hb5⟩; have H5 := am (show Below w4.heap.size w4 w5 from ((Below.refl _ w4).drew).trans hb5); clear hb5 x0 x1 x2 x3 x4 x5 x6 x7 ht3; obtain ⟨x0, x1, x2, x3, x4, x5, x6, x7⟩ := cells8t (blk_below HX4.out H5.out); have ht3 : w5.cell? ⟨bj, 3, none⟩ = some (.slice A5 n.f3.length c5) := blk_cell (blk_below HT4.out H5.out) 3) | fail)
 go_cut [77] (fun v77 wX => v77 = .bool (decide (C.f6 < 0 ∨ (n.f3.length : Int) < C.f6)) ∧ w5 = wX)
 case first =>
  cases u1 : decide (C.f6 < 0) <;> cases u2 : decide ((n.f3.length : Int) < C.f6)
  all_goals
   have u3 : decide (C.f6 > (n.f3.length : Int)) = _ := u2
   have HI2 := am (show decide (C.f6 < 0 ∨ (n.f3.length : Int) < C.f6) = (decide (C.f6 < 0) || decide ((n.f3.length : Int) < C.f6)) from Bool.decide_or _ _)
   rw [u1, u2] at HI2
   go_wp2
   go_meet
   case rel => exact ⟨by rw [HI2.out]; rfl, rfl⟩
 rename_i hk9
 obtain ⟨rfl, rfl⟩ := hcut
 refine hk9 _ _ ?_
 clear hk9
 go_cut [8] (fun v8 wX => v8 = .int .i64 (i : Int) ∧ w5 = wX)
 case first =>
  cases hq : decide (C.f6 < 0 ∨ (n.f3.length : Int) < C.f6)
  ·have HI2 := am (show (i : Int) = C.f6 from by rw [HIE.out.1, if_neg (of_decide_eq_false hq)])
   go_wp2
   go_meet
   case rel => exact ⟨by rw [HI2.out], rfl⟩
  ·have HI2 := am (show (i : Int) = (n.f3.length : Int) from by rw [HIE.out.1, if_pos (of_decide_eq_true hq)])
   go_wp2
   go_meet
   case rel => exact ⟨by rw [HI2.out], rfl⟩
 obtain ⟨rfl, rfl⟩ := hcut
 have hc3 : decide (n.f3.length < i) = false := decide_eq_false (by have := HIE.out; omega)
 have hi9 : (i : Int) ≤ 1000000000 := by have h1 := HIE.out.2; have h2 := HLT.out; omega
 go_upto_region 11 with (fail)
 have HR5 := am (Kd.R_below HR4.out H5.out)
 have hba : Below w5.heap.size w5 (w5.alloc (.cells #[.string C.f4, .string C.f5] 149)).drew := ((Below.refl _ w5).alloc (Nat.le_refl _) _).drew
 have HI := am (And.intro hba (Sl.insA_calls (w5.alloc (.cells #[.string C.f4, .string C.f5] 149)).drew w2.heap.size (.slice A5 n.f3.length c5) n.f3 i w5.heap.size ⟨C.f4, C.f5⟩ (fun _ => True) (Kd.R_below HR5.out hba) HIE.out.2 (blk_newest w5 _) (fun e => by have := Kd.R_lt HR5.out _ e; omega) (by have := HB4.out.2.2.1; have := H5.out.size; have := hba.size; omega) HA.out.1))
 have hz3 : (w5.alloc (.cells #[.string C.f4, .string C.f5] 149)).cell? ⟨bj, 3, none⟩ = some (.slice A5 n.f3.length c5) := pw_cell_below ((Below.refl _ w5).alloc (Nat.le_refl _) _) ht3
 rw [← HXS.out] at HI
 have HLEN := am (show XS.length = n.f3.length + 1 by rw [HXS.out]; simp; have := HIE.out.2; omega)
 clear hba
 go_region_law (refine goes_ Tryz.func170 (by kernel_rfl) rfl #[.slice A5 n.f3.length c5, .int .i64 i, .slice (some ⟨w5.heap.size, 0, none⟩) 1 1] (by rfl) rfl rfl (by (try simp only [List.map_toArray, List.map_cons, List.map_nil]); rfl) ?_; refine HI.out.2.mono ?_; rintro e w6 ⟨v6, rfl, hr6, hk6, hb6, ho6⟩; obtain ⟨A6, c6, e6⟩ := Kd.R_slice hr6; rw [HLEN.out] at e6; subst e6; refine ⟨_, rfl, ?_⟩; have HT6 := am ((hk6.2 bj (by have := HB4.out; have := H5.out.size; have := HI.out.1.size; omega) (fun e => by have := Kd.R_base HR5.out _ e; have := HB4.out; omega)).trans (blk_below (blk_below HT4.out H5.out) HI.out.1)); have hc6 := (twig_cells HT6.out).1.2.2.2.1; have hcf := blk_frozen HT6.out 3; have H6 := am (And.intro hr6 (And.intro hk6 (And.intro hb6 ho6))); clear hr6 hk6 hb6 ho6)
 all_goals
  generalize hw7 : World.setCell _ _ _ = w7
  have H7 := am (set_block hw7.symm HT6.out)
  clear hw7 hc6 hcf x0 x1 x2 x3 x4 x5 x6 x7 ht3 hz3
  have HS := am (show bj < w.heap.size ∧ w2.heap.size = w.heap.size + 2 ∧ w2.heap.size ≤ w4.heap.size ∧ w4.heap.size ≤ w5.heap.size ∧ w5.heap.size ≤ w6.heap.size ∧ w7.heap.size = w6.heap.size from ⟨HB4.out.1, HB4.out.2.1, HB4.out.2.2.1, H5.out.size, Nat.le_trans HI.out.1.size H6.out.2.1.1, H7.out.2.2.1⟩)
  have K7 := am (show ∀ k, k < w2.heap.size → k ≠ bj → w7.heap[k]? = w4.heap[k]? from fun k hk hkb => (H7.out.2.1 k hkb).trans ((H6.out.2.1.2 k (by have := HI.out.1.size; have := HS.out; omega) (fun e => by have := Kd.R_base HR5.out _ e; omega)).trans ((HI.out.1.block k (by have := HS.out; omega)).trans (H5.out.block k (by have := HS.out; omega)))))
  have HX7 := am ((K7.out w.heap.size (by have := HS.out; omega) (by have := HS.out; omega)).trans HX4.out)
  have HZ7 := am ((K7.out (w.heap.size + 1) (by have := HS.out; omega) (by have := HS.out; omega)).trans HZ4.out)
  obtain ⟨y0, y1, y2, y3, y4, y5, y6, y7⟩ := cells8t HX7.out
  obtain ⟨z0, z1, z2, z3, z4, z5, z6, z7⟩ := cells8t HZ7.out
  have hzf := fun k => blk_frozen HZ7.out k
  go_wp2_with fail
  generalize hw8 : World.setCell _ _ _ = w8
  have h8 := set8 (C := ⟨5, C.f1, 0, 0, C.f4, ⟨#[]⟩, 0, []⟩) (A := none) (c := 0) HZ7.out hw8.symm
  clear hw8 y0 y1 y2 y3 y4 y5 y6 y7 z0 z1 z2 z3 z4 z5 z6 z7 hzf
  obtain ⟨z0, z1, z2, z3, z4, z5, z6, z7⟩ := cells8t h8.1
  refine bodyPost_ret (v := chv ⟨5, C.f1, 0, 0, C.f4, ⟨#[]⟩, 0, []⟩ none 0) (by simp [results, Tryz.results167, go_sem, z0, z1, z2, z3, z4, z5, z6, z7, hut]) rfl ⟨rfl, A6, c6, ?_, ?_⟩
  ·have h9 := Kd.R_reads' (Kd.R_move (Kd.R_bound H6.out.1) (w1 := w8) (fun k hk => (h8.2.1 k (fun e => by have h1 := hk.2.1; have := HS.out; omega)).trans (H7.out.2.1 k (fun e => by have h1 := hk.2.1; have := HS.out; omega))))
   exact ⟨by rw [HLEN.out]; have := HLT.out; omega, by rw [HLEN.out]; exact HLEN.out ▸ h9.2.1, h9.2.2⟩
  ·refine ⟨by rw [h8.2.2.1]; have := HS.out; omega, fun k hk hkb => ?_, ?_, fun B hB hB2 => ?_⟩
   ·rw [h8.2.1 k (by omega), K7.out k (by have := HS.out; omega) hkb]
    exact HB4.out.2.2.2.1 k hk hkb
   ·refine (h8.2.1 bj (by have := HS.out; omega)).trans (H7.out.1.trans ?_)
    unfold twigCells withAttrs
    rw [HLEN.out]
    rfl
   ·refine h8.2.2.2 _ _ (H7.out.2.2.2 _ _ ?_ hB) (by omega)
    exact (HB4.out.2.2.2.2 B hB hB2).trans ((H5.out.mono (by have := HS.out; omega)).trans ((HI.out.1.mono (by have := HS.out; omega)).trans (H6.out.2.2.1 B (by have := HS.out; omega))))
def DoEnd (w : World) (g base b0 : Nat) (R : Chg) (L : List S95) (e : Ending) (w' : World) : Prop :=
 ∃ A c x k, e = .returned (chv R A c) ∧ NodeRow w' w.heap.size (.slice A R.f7.length c) R.f7 ∧ w'.cell? ⟨g, 0, none⟩ = some (ptr b0) ∧ x.b = b0 ∧ IsF w' w' base (.pointer none) 0 (.node x k .nil) ∧ nodesOf (.node x k .nil) = L ∧ ∀ B, B ≤ base → Below B w w'
structure Plot (ns : List S95) (w0 w : World) (g base : Nat) (bs : List Nat) (KV : Nat → Value) : Prop where
 gm : GMap w g ns bs
 gr : ∃ lv, Grown ns (fun W => Below w0.heap.size w0 W) w base bs lv KV
 b0 : Below w0.heap.size w0 w
 be : w0.heap.size = base
 gb : base ≤ g
 he : E (kids ns) 0 1 = some ns.length
 hk : ∀ n ∈ ns, 0 ≤ n.f5
 hn : ∀ n ∈ ns, n.f3.length < 1000000000
 ln : ns.length ≤ 4000
 nd : (ns.map (·.f0)).Nodup
structure Stand (ns : List S95) (w0 w : World) (base : Nat) (bs : List Nat) (F : Fo TW) : Prop where
 isF : IsF w0 w base (.pointer none) 0 F
 nd : (foot F).Nodup
 nsE : nodesOf F = ns
 bsE : (flat F).map (·.1.b) = bs
 root : ∃ x k, F = .node x k .nil ∧ x.b = bs.getD 0 0
section
variable {ns : List S95} {w0 w w' W : World} {g base : Nat} {bs : List Nat} {KV : Nat → Value} {F : Fo TW}
theorem Plot.bl (h : Plot ns w0 w g base bs KV) : bs.length = ns.length := by obtain ⟨lv, hg⟩ := h.gr; exact hg.len
theorem root_of {f : Fo TW} (h : len f = 1) : ∃ x k, f = .node x k .nil := by
 cases f with
 | nil => simp [len] at h
 | node x k r => cases r with
  | nil => exact ⟨x, k, rfl⟩
  | node y l s => simp [len] at h
theorem Plot.stand (h : Plot ns w0 w g base bs KV) : Stand ns w0 w base bs (treeF ns bs KV) := by
 obtain ⟨lv, hg⟩ := h.gr
 obtain ⟨x, k, hx⟩ := root_of (tree_flat (bs := bs) (KV := KV) h.he).1
 have hb := blocks_tree (KV := KV) h.he hg.len
 refine ⟨isF_tree hg (Below.refl _ _) h.he (fun n hn => Nat.le_of_lt (h.hn n hn)) h.hk, foot_tree hg h.he, nodes_tree h.he, hb, x, k, hx, ?_⟩
 rw [← hb, hx]
 simp [flat]
theorem Plot.below (h : Plot ns w0 w g base bs KV) (hb : Below w.heap.size w W) : Plot ns w0 W g base bs KV := by
 obtain ⟨lv, hg⟩ := h.gr
 exact ⟨h.gm.below hb, ⟨lv, hg.below hb⟩, below_step h.b0 hb, h.be, h.gb, h.he, h.hk, h.hn, h.ln, h.nd⟩
theorem IsF.lift : ∀ (f : Fo TW) (up : Value) (i : Nat), Below w0.heap.size w0 W → IsF w0 w base up i f → IsF W w base up i f
 | .nil, _, _, _, _ => trivial
 | .node x k r, up, i, hb, ⟨⟨⟨A, c, h1, h2⟩, h3⟩, h4, h5⟩ => ⟨⟨⟨A, c, h1.below hb, h2⟩, h3⟩, IsF.lift k _ _ hb h4, IsF.lift r _ _ hb h5⟩
theorem upd_const (b0 : Nat) (n : S95) (kv : Value) (g : Fo TW → Fo TW) : ∀ f : Fo TW, Fo.upd (fun z : TW => z.b == b0) (fun z => ⟨z.b, n, kv⟩) g f = Fo.upd (fun z : TW => z.b == b0) (fun _ => ⟨b0, n, kv⟩) g f
 | .nil => rfl
 | .node x k r => by
  unfold Fo.upd
  by_cases h : x.b = b0
  ·simp [h]
  ·simp [h, upd_const b0 n kv g k, upd_const b0 n kv g r]
theorem root_upd {x : TW} {k : Fo TW} (b0 : Nat) (n : S95) (kv : Value) (g : Fo TW → Fo TW) : ∃ x1 k1, Fo.upd (fun z : TW => z.b == b0) (fun _ => ⟨b0, n, kv⟩) g (.node x k .nil) = .node x1 k1 .nil ∧ x1.b = x.b := by
 unfold Fo.upd
 by_cases h : x.b = b0
 ·exact ⟨⟨b0, n, kv⟩, g k, by simp [h], h.symm⟩
 ·exact ⟨x, Fo.upd (fun z : TW => z.b == b0) (fun _ => ⟨b0, n, kv⟩) g k, by simp [h, Fo.upd], rfl⟩
theorem Stand.at_ (h : Stand ns w0 w base bs F) {j : Nat} (hj : j < ns.length) : ∃ x m, (flat F)[j]? = some (x, m) ∧ x.b = bs.getD j 0 ∧ x.n = ns[j] ∧ m = (kids ns).getD j 0 := by
 have hl : (flat F).length = ns.length := by rw [← h.nsE]; simp [nodesOf]
 have hjf : j < (flat F).length := by omega
 have hk := kids_flat F _ _ h.isF
 refine ⟨(flat F)[j].1, (flat F)[j].2, List.getElem?_eq_getElem hjf, ?_, ?_, ?_⟩
 ·rw [← h.bsE]; simp [List.getD_eq_getElem?_getD, hjf]
 ·have : ns[j] = (nodesOf F)[j]'(by rw [h.nsE]; exact hj) := by simp [h.nsE]
  rw [this]; simp [nodesOf]
 ·rw [← h.nsE, hk]; simp [Fo.ks, List.getD_eq_getElem?_getD, hjf]
theorem Stand.bnd (h : Stand ns w0 w base bs F) : bs.Nodup := by rw [← h.bsE]; exact h.nd.sublist (blocks_sub F)
theorem Stand.only (h : Stand ns w0 w base bs F) (hb0 : Below w0.heap.size w0 w) (hbe : w0.heap.size = base) (hbw : base ≤ w.heap.size) {j : Nat} (hj : j < ns.length) {n' : S95} {A' : Option Addr} {c' : Nat} {kv up : Value} {pl : Int} {n0 : S95} {A0 : Option Addr} {c0 : Nat} (hT : TwigB w (bs.getD j 0) n0 A0 c0 kv up pl) (hO : Only w w' (bs.getD j 0) (twigCells n' A' c' kv up pl) 99) (ha : AttrsAt w' A' c' n'.f3) (h5 : n'.f5 = (ns[j]).f5) :
  ∃ x k, x.b = bs.getD 0 0 ∧ IsF w' w' base (.pointer none) 0 (.node x k .nil) ∧ nodesOf (.node x k .nil) = ns.set j n' := by
 obtain ⟨y, m, hy, hyb, hyn, hym⟩ := h.at_ hj
 obtain ⟨kf, B, hs, hmk, hfl, hup⟩ := flat_at h.nd hy
 obtain ⟨x0, k0, hF, hx0⟩ := h.root
 have hbb : base ≤ bs.getD j 0 := by obtain ⟨_, _, h1, _⟩ := IsF.sub hs _ _ h.isF; rw [← hyb]; exact h1.2.1
 have hB : Below w0.heap.size w0 w' := by
  have h1 := hO.2.2.2 base hbb hbw
  rw [hbe]
  exact (hbe ▸ hb0).trans h1
 obtain ⟨x1, k1, he, hx1⟩ := root_upd (x := x0) (k := k0) y.b n' y.kv (fun l => l)
 rw [← hF] at he
 refine ⟨x1, k1, by rw [hx1, hx0], ?_, ?_⟩
 ·rw [← he, ← upd_const]
  refine IsF.upd (w0 := w') (S := [y.b]) (x' := fun z => ⟨z.b, n', y.kv⟩) (fun _ => rfl) hs rfl (fun b hb => by simp at hb; simp [tfoot, hb]) (fun up2 pl2 hN hl hr => ?_) _ _ (IsF.lift F _ _ hB h.isF) h.nd (fun b hb hbS => ?_)
  ·obtain ⟨A2, c2, ha2, hb2⟩ := hN
   have hkv : y.kv = kv ∧ up2 = up ∧ pl2 = pl := by
    rw [← hyb] at hT
    have h1 : w.heap[y.b]? = _ := hb2
    rw [hT] at h1
    injection h1 with h1
    injection h1 with h1 _
    simp [twigCells] at h1
    exact ⟨h1.2.2.2.2.2.2.1.symm, h1.2.2.2.2.2.2.2.1.symm, h1.2.2.2.2.2.2.2.2.symm⟩
   obtain ⟨e1, e2, e3⟩ := hkv
   obtain ⟨_, _, h6, h7⟩ := IsF.sub hs _ _ h.isF
   refine ⟨⟨⟨A', c', ha, ?_⟩, h6.2.1, ?_, row_keep hr (fun k hk => hO.2.1 k (row_base hr k hk).2 (fun e => ?_))⟩, IsF.keep kf _ _ hl (fun b hb => hO.2.1 b ((hl.typed kf _ _ b hb).2.1) (fun e => ?_))⟩
   ·rw [e1, e2, e3, hyb]; exact hO.2.2.1
   ·show n'.f5 = _
    rw [h5, ← hyn]; exact h6.2.2.1
   ·exact row_ne hr hb2 (by rw [hyb, ← e]; exact hk)
   ·have hsub := sub_foot hs
    have hnd := h.nd
    obtain ⟨P, Q, hp, _⟩ := foot_upd hs rfl hnd
    rw [hp] at hnd
    have h8 := (List.nodup_append.1 (List.nodup_append.1 hnd).2.1).1
    simp only [tfoot, List.nodup_cons] at h8
    exact h8.1 (by rw [hyb, ← e]; simp [hb])
  ·simp only [List.mem_singleton] at hbS
   exact hO.2.1 b ((h.isF.typed F _ _ b hb).2.1) (fun e => hbS (by rw [hyb]; exact e))
 ·rw [← he]
  have h1 := hup (fun _ => ⟨y.b, n', y.kv⟩) (fun l => l)
  unfold nodesOf
  rw [h1]
  have h2 : ns = ((flat F).take j).map (·.1.n) ++ y.n :: (kf |> nodesOf) ++ B.map (·.1.n) := by
   rw [← h.nsE]
   unfold nodesOf
   conv => lhs; rw [hfl]
   simp
  have hpl : (((flat F).take j).map (·.1.n)).length = j := by
   have := (List.getElem?_eq_some_iff.1 hy).1
   simp; omega
  rw [h2]
  simp only [List.append_assoc, List.cons_append]
  rw [List.set_append_right _ _ (by omega), hpl, Nat.sub_self]
  simp [nodesOf]
end
abbrev Out := Chg × List S95
def outT (ns : List S95) (C : Chg) (j : Nat) : Out := (⟨6, C.f1, 0, 0, ⟨#[]⟩, (ns.getD j z95).f4, 0, []⟩, ns.set j (withText (ns.getD j z95) C.f5))
def outD (ns : List S95) (C : Chg) (j : Nat) : Out :=
 let n := ns.getD j z95
 let i := (idxA C.f4 n.f3).getD 0
 (⟨4, C.f1, 0, 0, C.f4, (n.f3.getD i z149).f1, i, []⟩, ns.set j (withAttrs n (n.f3.eraseIdx i)))
def outA (ns : List S95) (C : Chg) (j : Nat) : Out :=
 let n := ns.getD j z95
 match idxA C.f4 n.f3 with
 | some i => (⟨4, C.f1, 0, 0, C.f4, (n.f3.getD i z149).f1, i, []⟩, ns.set j (withAttrs n (n.f3.set i ⟨(n.f3.getD i z149).f0, C.f5⟩)))
 | none =>
  let i := if C.f6 < 0 ∨ (n.f3.length : Int) < C.f6 then n.f3.length else C.f6.toNat
  (⟨5, C.f1, 0, 0, C.f4, ⟨#[]⟩, 0, []⟩, ns.set j (withAttrs n (n.f3.take i ++ ⟨C.f4, C.f5⟩ :: n.f3.drop i)))
section
variable {ns : List S95} {w0 w w' W : World} {g base : Nat} {bs : List Nat} {KV : Nat → Value} {F : Fo TW}
theorem Stand.twig (h : Stand ns w0 w base bs F) {j : Nat} (hj : j < ns.length) : ∃ A c kv up pl, AttrsAt w0 A c ns[j].f3 ∧ TwigB w (bs.getD j 0) ns[j] A c kv up pl ∧ base ≤ bs.getD j 0 := by
 obtain ⟨y, m, hy, hyb, hyn, hym⟩ := h.at_ hj
 obtain ⟨kf, B, hs, hmk, hfl, hup⟩ := flat_at h.nd hy
 obtain ⟨up, i, ⟨⟨A, c, h1, h2⟩, h3, _⟩, _⟩ := IsF.sub hs _ _ h.isF
 rw [hyb, hyn] at h2
 rw [hyn] at h1
 rw [hyb] at h3
 exact ⟨A, c, _, _, _, h1, h2, h3⟩
theorem Plot.bw (h : Plot ns w0 w g base bs KV) : base ≤ w.heap.size := by have := h.b0.size; have := h.be; omega
theorem idxA_lt {nm : ByteArray} : ∀ {xs : List S149} {i : Nat}, idxA nm xs = some i → i < xs.length
 | [], i, h => by simp [idxA] at h
 | x :: r, i, h => by
  unfold idxA at h
  split at h
  ·injection h with h; subst h; simp
  ·cases hr : idxA nm r with
   | none => rw [hr] at h; cases h
   | some k =>
    rw [hr] at h
    simp only [Option.map_some, Option.some.injEq] at h
    have := idxA_lt hr
    simp only [List.length_cons]
    omega
theorem only_end (h : Plot ns w0 w g base bs KV) {j : Nat} (hj : j < ns.length) {n' : S95} {A' : Option Addr} {c' : Nat} {kv up : Value} {pl : Int} {A0 : Option Addr} {c0 : Nat} {R : Chg} {e : Ending} (hT : TwigB w (bs.getD j 0) ns[j] A0 c0 kv up pl) (hO : Only w w' (bs.getD j 0) (twigCells n' A' c' kv up pl) 99) (ha : AttrsAt w' A' c' n'.f3) (h5 : n'.f5 = (ns[j]).f5) (he : e = .returned (chv R none 0)) (hR : R.f7 = []) : DoEnd w g base (bs.getD 0 0) R (ns.set j n') e w' := by
 obtain ⟨x, k, h1, h2, h3⟩ := h.stand.only h.b0 h.be h.bw hj hT hO ha h5
 have hbb : base ≤ bs.getD j 0 := (h.stand.twig hj).choose_spec.choose_spec.choose_spec.choose_spec.choose_spec.2.2
 refine ⟨none, 0, x, k, he, by rw [hR]; exact Kd.S_nil _ _ _ _ _, ?_, h1, h2, h3, fun B hB => hO.2.2.2 B (by omega) (by have := h.bw; omega)⟩
 obtain ⟨mb, hm, _⟩ := h.gm
 refine blk_cell ((hO.2.1 g (blk_lt hm) (fun e => ?_)).trans hm) 0
 rw [e, hT] at hm
 injection hm with hm
 injection hm with _ hm
 exact absurd hm (by decide)
theorem getD_of {j : Nat} (hj : j < ns.length) : ns.getD j z95 = ns[j] := by simp [List.getD_eq_getElem?_getD, hj]
theorem text_end (h : Plot ns w0 w g base bs KV) (C : Chg) (A : Option Addr) (c j : Nat) (hp : place ns C.f1 = some j) :
  Calls Tryz.prog 181 #[chv C A c, .pointer (some ⟨g, 0, none⟩)] w (DoEnd w g base (bs.getD 0 0) (outT ns C j).1 (outT ns C j).2) := by
 have hj := (place_some hp).1
 obtain ⟨A1, c1, kv, up, pl, ha, ht, _⟩ := h.stand.twig hj
 refine (text_do w g ns bs C A c h.gm h.bl h.nd j hp ns[j] A1 c1 kv up pl ht).mono (fun e w' he => ?_)
 unfold outT
 rw [getD_of hj]
 have hB : Below w0.heap.size w0 w' := h.b0.trans (h.be ▸ he.2.2.2.2 base (h.stand.twig hj).choose_spec.choose_spec.choose_spec.choose_spec.choose_spec.2.2 h.bw)
 exact only_end h hj ht he.2 (ha.below hB) rfl he.1 rfl
theorem drop_end (h : Plot ns w0 w g base bs KV) (C : Chg) (A : Option Addr) (c j : Nat) (hp : place ns C.f1 = some j) (hi : idxA C.f4 (attrsOf ns j) ≠ none) :
  Calls Tryz.prog 178 #[chv C A c, .pointer (some ⟨g, 0, none⟩)] w (DoEnd w g base (bs.getD 0 0) (outD ns C j).1 (outD ns C j).2) := by
 have hj := (place_some hp).1
 obtain ⟨A1, c1, kv, up, pl, ha, ht, _⟩ := h.stand.twig hj
 have ea : attrsOf ns j = ns[j].f3 := by simp [attrsOf, hj]
 rw [ea] at hi
 obtain ⟨i, hi⟩ := Option.ne_none_iff_exists'.1 hi
 have hil := idxA_lt hi
 refine (drop_do w g ns bs C A c h.gm h.bl h.nd j hp ns[j] A1 c1 kv up pl ht (ha.below h.b0) i hi hil).mono (fun e w' he => ?_)
 unfold outD
 simp only [getD_of hj, hi, Option.getD_some]
 obtain ⟨he1, A', c', he2, he3⟩ := he
 refine only_end h hj ht he3 he2 rfl ?_ rfl
 rw [he1]
 simp [List.getD_eq_getElem?_getD, hil]
theorem attr_end (h : Plot ns w0 w g base bs KV) (C : Chg) (A : Option Addr) (c j : Nat) (hp : place ns C.f1 = some j) :
  Calls Tryz.prog 167 #[chv C A c, .pointer (some ⟨g, 0, none⟩)] w (DoEnd w g base (bs.getD 0 0) (outA ns C j).1 (outA ns C j).2) := by
 have hj := (place_some hp).1
 obtain ⟨A1, c1, kv, up, pl, ha, ht, _⟩ := h.stand.twig hj
 have hlt := h.hn _ (List.getElem_mem hj)
 cases hi : idxA C.f4 ns[j].f3 with
 | some i =>
  have hil := idxA_lt hi
  refine (attr_do_old w g ns bs C A c h.gm h.bl h.nd j hp ns[j] A1 c1 kv up pl ht (ha.below h.b0) i hi hil).mono (fun e w' he => ?_)
  unfold outA
  simp only [getD_of hj, hi]
  obtain ⟨he1, A', c', he2, he3⟩ := he
  have e1 : ns[j].f3.getD i z149 = ns[j].f3[i] := by simp [List.getD_eq_getElem?_getD, hil]
  rw [e1]
  exact only_end h hj ht he3 he2 rfl he1 rfl
 | none =>
  have key : ∀ i, (if C.f6 < 0 ∨ (ns[j].f3.length : Int) < C.f6 then ns[j].f3.length else C.f6.toNat) = i → ∀ e w', (e = .returned (chv ⟨5, C.f1, 0, 0, C.f4, ⟨#[]⟩, 0, []⟩ none 0) ∧ ∃ A' c', AttrsAt w' A' c' (ns[j].f3.take i ++ ⟨C.f4, C.f5⟩ :: ns[j].f3.drop i) ∧ Only w w' (bs.getD j 0) (twigCells (withAttrs ns[j] (ns[j].f3.take i ++ ⟨C.f4, C.f5⟩ :: ns[j].f3.drop i)) A' c' kv up pl) 99) → DoEnd w g base (bs.getD 0 0) (outA ns C j).1 (outA ns C j).2 e w' := fun i hie e w' he => by
   unfold outA
   simp only [getD_of hj, hi, hie]
   obtain ⟨he1, A', c', he2, he3⟩ := he
   exact only_end h hj ht he3 he2 rfl he1 rfl
  exact (attr_do_new w g ns bs C A c h.gm h.bl h.nd j hp ns[j] A1 c1 kv up pl ht (ha.below h.b0) hi hlt _ (by split <;> omega)).mono (key _ rfl)
end
def nextN (ns : List S95) (P e : Nat) : Int := if E (kids ns) (P + 1) ((kids ns).getD P 0) = some e then -1 else (ns.getD e z95).f0
theorem size_flat : ∀ f : Fo TW, (flat f).length = size f
 | .nil => rfl
 | .node x k r => by simp only [flat, size, List.length_cons, List.length_append, size_flat k, size_flat r]
theorem E_mid {kl : List Nat} {A B : List (TW × Nat)} {f : Fo TW} {p : Nat} (h : kl = Fo.ks (A ++ (flat f ++ B))) (hp : p = A.length) : E kl p (len f) = some (p + size f) := by
 have := E_flat (Fo.ks A) (Fo.ks B) f
 rw [h, hp]
 simp only [Fo.ks, List.map_append, List.length_map] at this ⊢
 rw [this, size_flat]
theorem mid_part {α : Type} (A T R : List α) (j m : Nat) (hj : A.length = j) (hm : T.length = m) : ((A ++ (T ++ R)).take (j + m)).drop j = T := by
 subst hj hm
 rw [← List.append_assoc, List.take_left' (by simp), List.drop_left]
section
variable {ns : List S95} {w0 w w' W : World} {g base : Nat} {bs : List Nat} {KV : Nat → Value} {F : Fo TW}
structure KidOf (ns : List S95) (bs : List Nat) (F : Fo TW) (P i j : Nat) (y : TW) (kf : Fo TW) (B : List (TW × Nat)) (x : TW) (k r : Fo TW) : Prop where
 at_ : (flat F)[P]? = some (y, len kf)
 yb : y.b = bs.getD P 0
 yn : y.n = ns.getD P z95
 sub : Sub F y kf
 fl : flat F = (flat F).take P ++ (y, len kf) :: (flat kf ++ B)
 up : ∀ (x' : TW → TW) (g : Fo TW → Fo TW), flat (Fo.upd (fun z => z.b == y.b) x' g F) = (flat F).take P ++ (x' y, len (g kf)) :: (flat (g kf) ++ B)
 dr : fdrop i kf = .node x k r
 lt : i < len kf
 jat : P + 1 + size (ftake i kf) = j
 xat : (flat F)[j]? = some (x, len k)
 xb : x.b = bs.getD j 0
 end_ : E (kids ns) j 1 = some (j + (size k + 1))
 own : nodesOf (.node x k .nil) = (ns.take (j + (size k + 1))).drop j
 next : nextId r = nextN ns P (j + (size k + 1))
theorem Stand.kid (h : Stand ns w0 w base bs F) {P i j : Nat} (hK : Kid (kids ns) P i j) : ∃ y kf B x k r, KidOf ns bs F P i j y kf B x k r := by
 have hP : P < ns.length := by simpa [kids] using hK.1
 obtain ⟨y, m, hy, hyb, hyn, hym⟩ := h.at_ hP
 obtain ⟨kf, B, hs, rfl, hfl, hup⟩ := flat_at h.nd hy
 have hi : i < len kf := by rw [hym]; exact hK.2.1
 obtain ⟨x, k, hdr, htop⟩ := drop_node i kf hi
 have hks : kids ns = Fo.ks (flat F) := by rw [← h.nsE]; exact kids_flat F _ _ h.isF
 have hPl : ((flat F).take P).length = P := by have := (List.getElem?_eq_some_iff.1 hy).1; rw [List.length_take]; omega
 have hkf : flat kf = flat (ftake i kf) ++ ((x, len k) :: flat k ++ flat (fdrop (i + 1) kf)) := by
  have e := congrArg flat (take_drop i kf)
  rw [flat_app, hdr] at e
  simpa [flat] using e.symm
 have f1 : flat F = ((flat F).take P ++ [(y, len kf)]) ++ (flat (ftake i kf) ++ ((x, len k) :: flat k ++ flat (fdrop (i + 1) kf) ++ B)) := by
  conv => lhs; rw [hfl, hkf]
  simp
 have f2 : flat F = ((flat F).take P ++ [(y, len kf)] ++ flat (ftake i kf)) ++ (flat (.node x k .nil) ++ (flat (fdrop (i + 1) kf) ++ B)) := by
  conv => lhs; rw [f1]
  simp [flat]
 obtain ⟨A0, hA0⟩ : ∃ A0, A0 = (flat F).take P ++ [(y, len kf)] ++ flat (ftake i kf) := ⟨_, rfl⟩
 have f3 : flat F = ((flat F).take P ++ [(y, len kf)]) ++ (flat kf ++ B) := by
  conv => lhs; rw [hfl]
  simp
 have hlt : len (ftake i kf) = i := len_take i kf (by omega)
 have e1 := E_mid (p := P + 1) (hks.trans (congrArg Fo.ks f1)) (by simp [hPl])
 rw [hlt, hK.2.2] at e1
 injection e1 with e1
 have hjl : ((flat F).take P ++ [(y, len kf)] ++ flat (ftake i kf)).length = j := by
  rw [List.length_append, List.length_append, hPl, List.length_singleton, size_flat]; omega
 have hxat : (flat F)[j]? = some (x, len k) := by
  rw [f2, List.getElem?_append_right (by omega), hjl, Nat.sub_self]
  simp [flat]
 have e2 := E_mid (p := j) (hks.trans (congrArg Fo.ks f2)) hjl.symm
 have e3 := E_mid (p := P + 1) (hks.trans (congrArg Fo.ks f3)) (by simp [hPl])
 have hsz : size kf = size (ftake i kf) + (size k + 1) + size (fdrop (i + 1) kf) := by
  rw [← size_flat kf, hkf, ← size_flat (ftake i kf), ← size_flat k, ← size_flat (fdrop (i + 1) kf)]
  simp; omega
 have hs1 : size (Fo.node x k .nil) = size k + 1 := by simp [size]
 rw [hs1] at e2
 have hns : ns = nodesOf F := h.nsE.symm
 refine ⟨y, kf, B, x, k, fdrop (i + 1) kf, hy, hyb, by rw [getD_of hP, hyn], hs, hfl, hup, hdr, hi, by omega, hxat, ?_, e2, ?_, ?_⟩
 ·have hl := (List.getElem?_eq_some_iff.1 hxat).1
  rw [← h.bsE, List.getD_eq_getElem?_getD, List.getElem?_map, hxat]
  rfl
 ·have e4 := congrArg (List.map (fun z : TW × Nat => z.1.n)) f2
  rw [← hA0, List.map_append] at e4
  rw [List.map_append (l₁ := flat (Fo.node x k .nil))] at e4
  rw [hns]
  show _ = ((List.map (fun z : TW × Nat => z.1.n) (flat F)).take (j + (size k + 1))).drop j
  rw [e4, mid_part _ _ _ j (size k + 1) (by rw [List.length_map, hA0]; exact hjl) (by rw [List.length_map, size_flat, hs1])]
  rfl
 ·unfold nextN
  rw [← hym, e3]
  cases hr : fdrop (i + 1) kf with
  | nil =>
   rw [hr] at hsz
   simp only [size, Nat.add_zero] at hsz
   rw [if_pos (by congr 1; omega)]
   rfl
  | node x2 k2 r2 =>
   rw [hr] at hsz
   simp only [size] at hsz
   rw [if_neg (by intro e; injection e with e; omega)]
   have hat : (flat F)[j + (size k + 1)]? = some (x2, len k2) := by
    rw [f2, List.getElem?_append_right (by omega), hjl, show j + (size k + 1) - j = size k + 1 from by omega, List.getElem?_append_right (by rw [size_flat, hs1]; exact Nat.le_refl _), size_flat, hs1, Nat.sub_self, hr]
    simp [flat]
   rw [hns]
   simp [nextId, nodesOf, List.getD_eq_getElem?_getD, hat]
theorem KidOf.at2 {P i j : Nat} {y : TW} {kf : Fo TW} {B : List (TW × Nat)} {x : TW} {k r : Fo TW} (h : KidOf ns bs F P i j y kf B x k r) (hS : Stand ns w0 w base bs F) (hb0 : Below w0.heap.size w0 w) (hbw : base ≤ w.heap.size) (hl : ns.length ≤ 4000) : ∃ A2 c2 up2 pl2, AttrsAt w0 A2 c2 y.n.f3 ∧ KidAt w0 w base y.b y.n A2 c2 y.kv up2 pl2 kf i x k r := by
 obtain ⟨up, iy, ⟨⟨A, c, h1, h2⟩, h3, h4, h5⟩, h6⟩ := IsF.sub h.sub _ _ hS.isF
 have hnd := hS.nd
 obtain ⟨Pf, Q, hp, _⟩ := foot_upd h.sub rfl hnd
 rw [hp] at hnd
 have h8 := (List.nodup_append.1 (List.nodup_append.1 hnd).2.1).1
 simp only [tfoot, List.nodup_cons] at h8
 have h9 := (List.nodup_append.1 h8.2).2.1
 have hsz : size kf ≤ ns.length := by
  have e := congrArg List.length h.fl
  have : (flat F).length = ns.length := by rw [← hS.nsE]; simp [nodesOf]
  rw [List.length_append, List.length_cons, List.length_append] at e
  have := size_flat kf
  omega
 have bsf : ∀ f : Fo TW, (bsOf f).Sublist (foot f) := by
  intro f
  induction f with
  | nil => simp [bsOf, tops, foot]
  | node x k r _ ih =>
   simp only [bsOf, tops, foot, List.map_cons]
   exact List.Sublist.cons_cons _ (ih.trans ((List.sublist_append_right _ _).trans (List.sublist_append_right _ _)))
 refine ⟨A, c, up, _, h1, ⟨h2, h5, h6, h.dr, h.lt, h9.sublist (bsf kf), fun hm => h8.1 (by simp [bsOf_foot kf _ hm]), h3, hbw, by omega, hb0⟩⟩
end
def endOf (ns : List S95) (j : Nat) : Nat := (E (kids ns) j 1).getD 0
def parN (ns : List S95) (j : Nat) : Nat := (parOf (kids ns) j).getD 0
def outR (ns : List S95) (j : Nat) : Out :=
 (⟨1, 0, (ns.getD (parN ns j) z95).f0, nextN ns (parN ns j) (endOf ns j), ⟨#[]⟩, ⟨#[]⟩, 0, (ns.take (endOf ns j)).drop j⟩, cutN ns (parN ns j) j (endOf ns j))
theorem bsOf_app (f g : Fo TW) : bsOf (app f g) = bsOf f ++ bsOf g := by simp [bsOf, tops_app]
theorem foot_drop (i : Nat) (f : Fo TW) : foot f = foot (ftake i f) ++ foot (fdrop i f) := by rw [← foot_app, take_drop]
section
variable {ns : List S95} {w0 w w' W : World} {g base : Nat} {bs : List Nat} {KV : Nat → Value} {F : Fo TW} {P i j : Nat} {y x : TW} {kf k r : Fo TW} {B : List (TW × Nat)}
theorem KidOf.sep (h : KidOf ns bs F P i j y kf B x k r) (hnd : (foot F).Nodup) : (foot (app (ftake i kf) r)).Nodup ∧ (∀ b ∈ foot (app (ftake i kf) r), b ≠ y.b ∧ y.kv.ownBlock ≠ some b ∧ b ∈ foot F ∧ b ∈ foot kf) ∧ (∀ b ∈ tfoot x k, b ∈ foot F ∧ b ≠ y.b ∧ y.kv.ownBlock ≠ some b ∧ b ∉ foot (app (ftake i kf) r)) ∧ (tfoot x k).Nodup := by
 obtain ⟨Pf, Q, hp, _⟩ := foot_upd h.sub rfl hnd
 have hsub := sub_foot h.sub
 rw [hp] at hnd
 have h8 := (List.nodup_append.1 (List.nodup_append.1 hnd).2.1).1
 simp only [tfoot, List.nodup_cons] at h8
 have h9 := List.nodup_append.1 h8.2
 have e1 : foot kf = foot (ftake i kf) ++ (tfoot x k ++ foot r) := by
  rw [foot_drop i kf, h.dr]
  simp [foot, tfoot]
 have h10 := h9.2.1
 rw [e1] at h10
 have h11 := List.nodup_append.1 h10
 have h12 := List.nodup_append.1 h11.2.1
 have e2 : foot (app (ftake i kf) r) = foot (ftake i kf) ++ foot r := foot_app _ _
 have mem : ∀ b, b ∈ foot (app (ftake i kf) r) → b ∈ foot kf := fun b hb => by
  rw [e2] at hb; rw [e1]
  rcases List.mem_append.1 hb with hb | hb
  ·simp [hb]
  ·simp [hb]
 have memx : ∀ b, b ∈ tfoot x k → b ∈ foot kf := fun b hb => by rw [e1]; simp [hb]
 have far : ∀ b, b ∈ foot kf → b ≠ y.b ∧ y.kv.ownBlock ≠ some b ∧ b ∈ foot F := fun b hb =>
  ⟨fun e => h8.1 (by rw [← e]; simp [hb]), fun e => h9.2.2 b (by simp [e]) b hb rfl, hsub b (by simp [tfoot, hb])⟩
 refine ⟨?_, fun b hb => ⟨(far b (mem b hb)).1, (far b (mem b hb)).2.1, (far b (mem b hb)).2.2, mem b hb⟩, fun b hb => ⟨(far b (memx b hb)).2.2, (far b (memx b hb)).1, (far b (memx b hb)).2.1, ?_⟩, h12.1⟩
 ·rw [e2]
  exact List.nodup_append.2 ⟨h11.1, h12.2.1, fun a ha b hb => h11.2.2 a ha b (by simp [hb])⟩
 ·rw [e2]
  intro hm
  rcases List.mem_append.1 hm with hm | hm
  ·exact h11.2.2 b hm b (by simp [hb]) rfl
  ·exact h12.2.2 b hb b hm rfl
theorem KidOf.bsOf1 (h : KidOf ns bs F P i j y kf B x k r) : bsOf (app (ftake i kf) r) = (bsOf kf).eraseIdx i := by
 rw [bsOf_app, bsOf_take, List.eraseIdx_eq_take_drop_succ, ← bsOf_drop, fdrop_next i kf h.dr]
theorem KidOf.taken (h : KidOf ns bs F P i j y kf B x k r) (hS : Stand ns w0 w base bs F) {A2 : Option Addr} {c2 : Nat} {up2 : Value} {pl2 : Int} (hK : KidAt w0 w base y.b y.n A2 c2 y.kv up2 pl2 kf i x k r) (hR : Regr w w' base y.b y.n A2 c2 y.kv up2 pl2 ((bsOf kf).eraseIdx i)) :
  ∃ kv' x1 k1 F1, F1 = .node x1 k1 .nil ∧ x1.b = bs.getD 0 0 ∧ (y.kv.ownBlock = kv'.ownBlock ∨ ∃ k, kv'.ownBlock = some k ∧ w.heap.size ≤ k) ∧ F1 = Fo.upd (fun z : TW => z.b == y.b) (fun _ => ⟨y.b, withKids y.n (len (app (ftake i kf) r)), kv'⟩) (fun _ => app (ftake i kf) r) F ∧ IsF w0 w' base (.pointer none) 0 F1 ∧ nodesOf F1 = cutN ns P j (j + (size k + 1)) := by
 obtain ⟨s1, s2, s3, s4⟩ := h.sep hS.nd
 have hlt : ∀ b ∈ foot F, b < w.heap.size := fun b hb => (hS.isF.typed F _ _ b hb).2.1
 have hTr : Trees w0 w base (app (ftake i kf) r) := by
  have ht := IsF.trees kf _ _ hK.kids
  have hr : Trees w0 w base r := by rw [← fdrop_next i kf h.dr]; exact ht.drop (i + 1)
  exact Trees.app _ _ (ht.take i) hr
 obtain ⟨kv', e1, e2⟩ := regr_upd (F := F) (kf := kf) (kf' := app (ftake i kf) r) (y := y) hS.nd h.sub rfl hK.par (by rw [h.bsOf1]; exact hR) hTr s1 (fun b hb => ⟨(s2 b hb).1, (s2 b hb).2.1, hlt b (s2 b hb).2.2.1⟩) (fun b hb hF => by simp [tfoot, (s2 b (bsOf_foot _ b hb)).2.2.2]) hlt
 obtain ⟨x0, k0, hF, hx0⟩ := hS.root
 obtain ⟨x1, k1, he, hx1⟩ := root_upd (x := x0) (k := k0) y.b (withKids y.n (len (app (ftake i kf) r))) kv' (fun _ => app (ftake i kf) r)
 rw [← hF] at he
 refine ⟨kv', x1, k1, _, he, by rw [hx1, hx0], e1, rfl, e2 _ _ hS.isF, ?_⟩
 have hm : kid y.n = len kf := by
  obtain ⟨_, _, h6, _⟩ := IsF.sub h.sub _ _ hS.isF
  unfold kid
  rw [h6.2.2.1]
  simp
 have hc := nodes_cut h.fl hm h.lt h.dr (List.getElem?_eq_some_iff.1 h.at_).1 (h.up (fun _ => ⟨y.b, withKids y.n (len (app (ftake i kf) r)), kv'⟩) (fun _ => app (ftake i kf) r))
 rw [hS.nsE, h.jat] at hc
 exact hc
theorem remove_end (h : Plot ns w0 w g base bs KV) (C : Chg) (A : Option Addr) (c : Nat) (hp : place ns C.f1 = some j) (hj0 : j ≠ 0) :
  Calls Tryz.prog 159 #[chv C A c, .pointer (some ⟨g, 0, none⟩)] w (DoEnd w g base (bs.getD 0 0) (outR ns j).1 (outR ns j).2) := by
 have hj := (place_some hp).1
 obtain ⟨P, i, hKid⟩ := parOf_in (j := j) (by rw [show (kids ns).length = ns.length by simp [kids]]; exact h.he) (by omega) (by simpa [kids] using hj)
 have hS := h.stand
 obtain ⟨y, kf, B, x, k, r, hk⟩ := hS.kid hKid
 obtain ⟨A2, c2, up2, pl2, ha2, hK⟩ := hk.at2 hS h.b0 h.bw h.ln
 refine (remove_do w0 w g ns bs C A c h.gm h.bl h.nd j hp base y.b y.n A2 c2 y.kv up2 pl2 kf i x k r hK hk.xb).mono (fun e w' he => ?_)
 obtain ⟨A', c', he1, he2, he3⟩ := he
 obtain ⟨kv', x1, k1, F1, hF1, hx1, _, _, hI, hn⟩ := hk.taken hS hK he3
 have hpar : parN ns j = P := by unfold parN; rw [parOf_of hKid]; rfl
 have hend : endOf ns j = j + (size k + 1) := by unfold endOf; rw [hk.end_]; rfl
 have hB : Below w0.heap.size w0 w' := h.b0.trans (h.be ▸ he3.below base (Nat.le_refl _))
 have hout : outR ns j = (⟨1, 0, y.n.f0, nextId r, ⟨#[]⟩, ⟨#[]⟩, 0, nodesOf (.node x k .nil)⟩, nodesOf F1) := by
  unfold outR
  rw [hpar, hend, hn, hk.yn, hk.next, hk.own]
 rw [hout]
 refine ⟨A', c', x1, k1, he1, he2, ?_, hx1, ?_, by rw [hF1], he3.below⟩
 ·obtain ⟨mb, hm, _⟩ := h.gm
  exact blk_cell (he3.other hK.par ⟨_, hK.row⟩ (fun k hk => hK.typed k (List.mem_of_mem_eraseIdx hk)) hm (by decide) (by decide)) 0
 ·rw [← hF1]
  exact IsF.lift F1 _ _ hB hI
end
end Go.Proofs.YthjgohbkpjhkeaaGreatDoor.Impl
