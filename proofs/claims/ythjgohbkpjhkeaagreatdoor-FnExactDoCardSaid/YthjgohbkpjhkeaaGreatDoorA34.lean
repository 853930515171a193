/- Part 34 of the proof: DoLaw. -/
import Derived.Test.YthjgohbkpjhkeaaGreatDoorA1
import Derived.Test.YthjgohbkpjhkeaaGreatDoorA33
import Derived.Deep.RegionHeld3
set_option linter.unusedVariables false
set_option linter.unusedSimpArgs false
set_option maxHeartbeats 4000000
set_option maxRecDepth 100000
namespace Go.Proofs.YthjgohbkpjhkeaaGreatDoor.Impl
open Go.RowKit Go.Proofs.YthjgohbkpjhkeaaGreatDoorW.PrintWords Go.Proofs.YthjgohbkpjhkeaaGreatDoorW.PrintLast Go.Proofs.YthjgohbkpjhkeaaGreatDoorW.PrintMore Go.Proofs.YthjgohbkpjhkeaaGreatDoor.PFnExactDo Go.Proofs.YthjgohbkpjhkeaaGreatDoor.MapLib Go.Proofs.YthjgohbkpjhkeaaGreatDoor.FireSpec Go.Proofs.YthjgohbkpjhkeaaGreatDoor.Tr
def ImplIs (w : World) (cp : List S95) (D : Chg) (L : List S95) (R : Chg) (code : Int) : Prop := ∀ W A1 c1 A2 c2, Below w.heap.size w W → Kd.C k95 W A1 cp.length cp → cp.length ≤ c1 → Kd.C k95 W A2 D.f7.length D.f7 → D.f7.length ≤ c2 → Calls Tryz.prog 13 #[.agg #[.slice A1 cp.length c1], chv D A2 c2] W (DoesEnd W L R code)
theorem ImplIs.spec {w : World} {cp : List S95} {D : Chg} {L : List S95} {R : Chg} {code : Int} (h : ImplIs w cp D L R code) : SpecIs w 13 cp D L R code := fun W A1 c1 A2 c2 hW g1 g2 g3 g4 => by
 refine (h W A1 c1 A2 c2 hW g1 g2 g3 g4).mono ?_
 rintro e w' ⟨hb, A6, c6, A7, c7, M, rfl, hs1, hs2⟩
 exact ⟨A6, c6, A7, c7, rfl, Kd.F_mono (Kd.S_F (Kd.S_bound hs1)) (fun k hk => hk.2.1), (Kd.S_reads' hs1).2.1, Kd.F_mono (Kd.S_F (Kd.S_bound hs2)) (fun k hk => hk.2.1), (Kd.S_reads' hs2).2.1, hb⟩
theorem law_calls (A : Option Addr) (c : Nat) (xs : List LNode) (C : LChg) (AC : Option Addr) (cC : Nat) (w : World) (r1 r2 : Int) (hs1 : ∀ W, Below w.heap.size w W → Calls Tryz.prog 8 #[.agg #[.slice A xs.length c], .int .i64 1048576] W fun e w' => e = .returned (.int .i64 r1) ∧ Below W.heap.size W w') (hr1 : 0 ≤ r1)
  (hs2 : ∀ W, Below w.heap.size w W → Calls Tryz.prog 9 #[chvL C AC cC, .int .i64 r1] W fun e w' => e = .returned (.int .i64 r2) ∧ Below W.heap.size W w') (hr2 : 0 ≤ r2)
  (cp : List S95) (D : Chg) (L : List S95) (R : Chg) (code : Int) (hto : TreeIs w A xs.length c cp) (htc : ChgIs w C AC cC D) (hsp : SpecIs w 10 cp D L R code) (him : ImplIs w cp D L R code) (hcp : Small cp) (hD : Small D.f7) (hL : Small L) (hR : Small R.f7) :
  Calls Tryz.prog 3 #[.agg #[.slice A xs.length c], chvL C AC cC] w (LawEnd w) := by
 have hd1 : decide (r1 < 0) = false := decide_eq_false (by omega)
 have hd2 : decide (r2 < 0) = false := decide_eq_false (by omega)
 have HSZ := am (And.intro hs1 hs2)
 have HTO := am (And.intro hto htc)
 have HSP := am hsp
 have HIM := am him
 have HSM := am (And.intro hcp (And.intro hD (And.intro hL hR)))
 clear hs1 hs2 hto htc hsp him hcp hD hL hR hr1 hr2
 go_enter Tryz.func3, Tryz.ntmps3
 go_upto_region 2 with (fail)
 have H0 := am (L0.two (w := w) (A := A) (n := xs.length) (c := c) (C := C) (AC := AC) (cC := cC))
 generalize World.alloc _ _ = w1 at H0 ⊢
 have t0 := blk_cell H0.out.t 0
 go_upto_region 5 with (first | (go_at_call 8; refine (HSZ.out.1 _ H0.out.b).mono ?_; rintro e w2 ⟨rfl, hb2⟩; have H1 := am (H0.out.below hb2); clear hb2) | fail)
 clear t0 H0
 have t0 := blk_cell H1.out.t 0
 obtain ⟨x0, x1, x2, x3, x4, x5, x6, x7⟩ := cells8L H1.out.c
 go_upto_region 8 with (first | (go_at_call 9; refine (HSZ.out.2 _ H1.out.b).mono ?_; rintro e w3 ⟨rfl, hb3⟩; have H2 := am (H1.out.below hb3); clear hb3) | fail)
 clear t0 x0 x1 x2 x3 x4 x5 x6 x7 H1 HSZ
 have HD2 := am (And.intro (Below.refl w3.heap.size w3) (Below.refl w3.heap.size w3).drew)
 have HST := am (show ∀ W, Below w3.heap.size w3 W → (W.cell? ⟨w.heap.size, 0, none⟩ = some (.slice A xs.length c) ∧ W.cell? ⟨w.heap.size + 1, 0, none⟩ = some (.int .i64 C.f0) ∧ W.cell? ⟨w.heap.size + 1, 1, none⟩ = some (.int .i64 C.f1) ∧ W.cell? ⟨w.heap.size + 1, 2, none⟩ = some (.int .i64 C.f2) ∧ W.cell? ⟨w.heap.size + 1, 3, none⟩ = some (.int .i64 C.f3) ∧ W.cell? ⟨w.heap.size + 1, 4, none⟩ = some (.string C.f4) ∧ W.cell? ⟨w.heap.size + 1, 5, none⟩ = some (.string C.f5) ∧ W.cell? ⟨w.heap.size + 1, 6, none⟩ = some (.int .i64 C.f6) ∧ W.cell? ⟨w.heap.size + 1, 7, none⟩ = some (.slice AC C.f7.length cC)) from fun W hW => ⟨blk_cell (blk_below H2.out.t hW) 0, cells8L (blk_below H2.out.c hW)⟩)
 have HTR := am HTO.out.1
 have HCH := am HTO.out.2
 refine start_ (n := 14) (S := fun W => W.cell? ⟨w.heap.size, 0, none⟩ = some (.slice A xs.length c) ∧ W.cell? ⟨w.heap.size + 1, 0, none⟩ = some (.int .i64 C.f0) ∧ W.cell? ⟨w.heap.size + 1, 1, none⟩ = some (.int .i64 C.f1) ∧ W.cell? ⟨w.heap.size + 1, 2, none⟩ = some (.int .i64 C.f2) ∧ W.cell? ⟨w.heap.size + 1, 3, none⟩ = some (.int .i64 C.f3) ∧ W.cell? ⟨w.heap.size + 1, 4, none⟩ = some (.string C.f4) ∧ W.cell? ⟨w.heap.size + 1, 5, none⟩ = some (.string C.f5) ∧ W.cell? ⟨w.heap.size + 1, 6, none⟩ = some (.int .i64 C.f6) ∧ W.cell? ⟨w.heap.size + 1, 7, none⟩ = some (.slice AC C.f7.length cC)) (ds := [11, 12]) #[false, false, false, false, false, false, false, false, false, false, false, false, false, false] (by kernel_rfl) rfl rfl (HST.out _ HD2.out.2) (fun hHeld => ?_)
 have HF0 := am (NF.start (w3 := w3) (cp := cp) (D := D) (L := L) (R := R) ⟨none, 0, none, 0, none, 0, none, 0, 0, 0⟩)
 generalize hwd : World.drew w3 = wd at HF0 hHeld ⊢
 clear hwd
 repeat ((first | refine tk 0 31 (v := ?_) (a' := ?_) rfl rfl rfl (by kernel_rfl) (fun _ _ _ h => h) (Or.inl ⟨by rfl, ?_⟩) hHeld ?_ ?_ | refine tk 2 33 (v := ?_) (a' := ?_) rfl rfl rfl (by kernel_rfl) (fun _ _ _ h => h) (Or.inl ⟨by rfl, ?_⟩) hHeld ?_ ?_); rotate_left; (rintro w' ⟨s0, s1, s2, s3, s4, s5, s6, s7, s8⟩; go_simp; with_reducible rfl); rotate_left; (simp only [Act.put, List.setIfInBounds_toArray, List.set_cons_zero, List.set_cons_succ, i64_w, i32_w]; rfl))
 refine joins_ (σ := Sg) fl bl (ntl 32 34 35 30 36 37 38 6 7 cp D L R code) (NF w3 cp D L R) ?_ ?_ (fun hC => hC 0 false false _ _ (by decide) HF0.out)
 rotate_left
 ·rintro k x y ⟨hk, hf⟩ IH
  obtain rfl | rfl | rfl | rfl : k = 0 ∨ k = 1 ∨ k = 2 ∨ k = 3 := by omega
  all_goals
   rcases x with _ | _ <;> rcases y with _ | _
  all_goals
   first
    | exact absurd ⟨rfl, rfl, rfl⟩ hf
    | skip
  all_goals
   intro s W hN
   have HN := am hN
   clear hN hf
   refine norm_ (a' := ?_) ?_ ?_
   rotate_left
   ·simp only [ntl, nl, List.cons_append, List.nil_append, putAll, Act.put, List.setIfInBounds_toArray, List.set_cons_zero, List.set_cons_succ]
    rfl
   first
    | refine on3 1 9 10 32 6 7 rfl rfl rfl rfl rfl rfl rfl (by kernel_rfl) (by decide) (by decide) (by decide) (fun K hK => ?_) (fun K hK => ?_) (fun K hK => ?_)
    | refine on3 3 9 10 34 6 7 rfl rfl rfl rfl rfl rfl rfl (by kernel_rfl) (by decide) (by decide) (by decide) (fun K hK => ?_) (fun K hK => ?_) (fun K hK => ?_)
    | refine on3 4 9 10 35 6 7 rfl rfl rfl rfl rfl rfl rfl (by kernel_rfl) (by decide) (by decide) (by decide) (fun K hK => ?_) (fun K hK => ?_) (fun K hK => ?_)
    | refine on2 1 9 32 6 rfl rfl rfl rfl rfl (by kernel_rfl) (by decide) (by decide) (fun K hK => ?_) (fun K hK => ?_)
    | refine on2 3 9 34 6 rfl rfl rfl rfl rfl (by kernel_rfl) (by decide) (by decide) (fun K hK => ?_) (fun K hK => ?_)
    | refine on2 4 9 35 6 rfl rfl rfl rfl rfl (by kernel_rfl) (by decide) (by decide) (fun K hK => ?_) (fun K hK => ?_)
    | refine on2 1 10 32 7 rfl rfl rfl rfl rfl (by kernel_rfl) (by decide) (by decide) (fun K hK => ?_) (fun K hK => ?_)
    | refine on2 3 10 34 7 rfl rfl rfl rfl rfl (by kernel_rfl) (by decide) (by decide) (fun K hK => ?_) (fun K hK => ?_)
    | refine on2 4 10 35 7 rfl rfl rfl rfl rfl (by kernel_rfl) (by decide) (by decide) (fun K hK => ?_) (fun K hK => ?_)
    | refine on2 9 10 6 7 rfl rfl rfl rfl rfl (by kernel_rfl) (by decide) (by decide) (fun K hK => ?_) (fun K hK => ?_)
    | refine on1 1 32 rfl rfl rfl (by kernel_rfl) (by decide) (fun K hK => ?_)
    | refine on1 3 34 rfl rfl rfl (by kernel_rfl) (by decide) (fun K hK => ?_)
    | refine on1 4 35 rfl rfl rfl (by kernel_rfl) (by decide) (fun K hK => ?_)
    | refine on1 9 6 rfl rfl rfl (by kernel_rfl) (by decide) (fun K hK => ?_)
    | refine on1 10 7 rfl rfl rfl (by kernel_rfl) (by decide) (fun K hK => ?_)
   all_goals first
    | (refine goes_ Tryz.func11 (by kernel_rfl) rfl #[.agg #[.slice A xs.length c]] (by rfl) rfl rfl (by (try simp only [List.map_toArray, List.map_cons, List.map_nil]); first | done | rfl) ?_; refine (HTR.out _ (below_step H2.out.b (HN.out.b))).mono ?_; rintro e w' ⟨A1, c1, rfl, hc⟩; have HN2 := am (HN.out.one hc); refine ⟨_, rfl, ?_⟩; refine hK.out _ _ (HST.out _ HN2.out.b) (fun hHeld2 => ?_); clear hK K; refine norm_ (a' := ?_) ?_ ?_; rotate_left; (show Act.put _ (some 32) _ = _; simp only [Act.put, List.setIfInBounds_toArray, List.set_cons_zero, List.set_cons_succ, i64_w, i32_w]; rfl); exact norm_ (by first | (simp only [ntl, nl, List.cons_append, List.nil_append, putAll, Act.put, List.setIfInBounds_toArray, List.set_cons_zero, List.set_cons_succ]; done) | (simp only [ntl, nl, List.cons_append, List.nil_append, putAll, Act.put, List.setIfInBounds_toArray, List.set_cons_zero, List.set_cons_succ]; rfl)) (IH _ _ _ _ _ (by decide) (by decide) HN2.out))
    | (refine goes_ Tryz.func12 (by kernel_rfl) rfl #[chvL C AC cC] (by rfl) rfl rfl (by (try simp only [List.map_toArray, List.map_cons, List.map_nil]); first | done | rfl) ?_; refine (HCH.out _ (below_step H2.out.b (HN.out.b))).mono ?_; rintro e w' ⟨A2, c2, rfl, hc⟩; have HN2 := am (HN.out.two hc); refine ⟨_, rfl, ?_⟩; refine hK.out _ _ (HST.out _ HN2.out.b) (fun hHeld2 => ?_); clear hK K; refine norm_ (a' := ?_) ?_ ?_; rotate_left; (show Act.put _ (some 34) _ = _; simp only [Act.put, List.setIfInBounds_toArray, List.set_cons_zero, List.set_cons_succ, i64_w, i32_w]; rfl); exact norm_ (by first | (simp only [ntl, nl, List.cons_append, List.nil_append, putAll, Act.put, List.setIfInBounds_toArray, List.set_cons_zero, List.set_cons_succ]; done) | (simp only [ntl, nl, List.cons_append, List.nil_append, putAll, Act.put, List.setIfInBounds_toArray, List.set_cons_zero, List.set_cons_succ]; rfl)) (IH _ _ _ _ _ (by decide) (by decide) HN2.out))
    | (refine goes_ Tryz.func10 (by kernel_rfl) rfl #[.agg #[.slice s.A1 cp.length s.c1], chv D s.A2 s.c2] (by rfl) rfl rfl (by (try simp only [List.map_toArray, List.map_cons, List.map_nil]); first | done | rfl) ?_; refine (HSP.out _ _ _ _ _ (below_step H2.out.b (HN.out.b)) (HN.out.f1 (by decide)).1 (HN.out.f1 (by decide)).2 (HN.out.f2 (by decide)).1 (HN.out.f2 (by decide)).2).mono ?_; rintro e w' ⟨A6, c6, A7, c7, rfl, g1, g2, g3, g4, hb⟩; have HN2 := am (HN.out.three g1 g2 g3 g4 hb); refine ⟨_, rfl, ?_⟩; refine hK.out _ _ (HST.out _ HN2.out.b) (fun hHeld2 => ?_); clear hK K; refine norm_ (a' := ?_) ?_ ?_; rotate_left; (show Act.put _ (some 35) _ = _; simp only [Act.put, List.setIfInBounds_toArray, List.set_cons_zero, List.set_cons_succ, i64_w, i32_w]; rfl); (repeat ((first | refine pu 5 30 (v := ?_) (a' := ?_) rfl rfl rfl (by kernel_rfl) (fun _ _ _ h => h) (Or.inl ⟨by rfl, ?_⟩) ?_ ?_ | refine pu 6 36 (v := ?_) (a' := ?_) rfl rfl rfl (by kernel_rfl) (fun _ _ _ h => h) (Or.inl ⟨by rfl, ?_⟩) ?_ ?_ | refine pu 7 37 (v := ?_) (a' := ?_) rfl rfl rfl (by kernel_rfl) (fun _ _ _ h => h) (Or.inl ⟨by rfl, ?_⟩) ?_ ?_ | refine pu 8 38 (v := ?_) (a' := ?_) rfl rfl rfl (by kernel_rfl) (fun _ _ _ h => h) (Or.inl ⟨by rfl, ?_⟩) ?_ ?_); rotate_left; (intro w'; go_simp; with_reducible rfl); rotate_left; (simp only [Act.put, List.setIfInBounds_toArray, List.set_cons_zero, List.set_cons_succ, i64_w, i32_w]; rfl))); exact norm_ (by first | (simp only [ntl, nl, List.cons_append, List.nil_append, putAll, Act.put, List.setIfInBounds_toArray, List.set_cons_zero, List.set_cons_succ]; done) | (simp only [ntl, nl, List.cons_append, List.nil_append, putAll, Act.put, List.setIfInBounds_toArray, List.set_cons_zero, List.set_cons_succ]; rfl)) (IH _ _ _ _ _ (by decide) (by decide) HN2.out))
    | (refine box_step ?hg (N := 6) ?hd (cs := #[.slice none 0 0]) (t := 31) ?hr ?_; (case hd => rfl); (case hg => rfl); (case hr => first | (go_simp; done) | (go_simp; rfl)); intro gb hg w' hbox hb; have HN2 := am (HN.out.allocX hg hbox hb); refine hK.out _ _ (HST.out _ HN2.out.b) (fun hHeld2 => ?_); clear hK K; refine norm_ (a' := ?_) ?_ ?_; rotate_left; (show Act.put _ (some 6) _ = _; simp only [Act.put, List.setIfInBounds_toArray, List.set_cons_zero, List.set_cons_succ, i64_w, i32_w]; rfl); exact norm_ (by first | (simp only [ntl, nl, List.cons_append, List.nil_append, putAll, Act.put, List.setIfInBounds_toArray, List.set_cons_zero, List.set_cons_succ]; done) | (simp only [ntl, nl, List.cons_append, List.nil_append, putAll, Act.put, List.setIfInBounds_toArray, List.set_cons_zero, List.set_cons_succ]; rfl)) (IH _ _ _ _ _ (by decide) (by decide) HN2.out))
    | (refine box_step ?hg (N := 7) ?hd (cs := #[.int .i64 0, .int .i64 0, .int .i64 0, .int .i64 0, .string ⟨#[]⟩, .string ⟨#[]⟩, .int .i64 0, .slice none 0 0]) (t := 33) ?hr ?_; (case hd => rfl); (case hg => rfl); (case hr => first | (go_simp; done) | (go_simp; rfl)); intro gb hg w' hbox hb; have HN2 := am (HN.out.allocY hg hbox hb); refine hK.out _ _ (HST.out _ HN2.out.b) (fun hHeld2 => ?_); clear hK K; refine norm_ (a' := ?_) ?_ ?_; rotate_left; (show Act.put _ (some 7) _ = _; simp only [Act.put, List.setIfInBounds_toArray, List.set_cons_zero, List.set_cons_succ, i64_w, i32_w]; rfl); exact norm_ (by first | (simp only [ntl, nl, List.cons_append, List.nil_append, putAll, Act.put, List.setIfInBounds_toArray, List.set_cons_zero, List.set_cons_succ]; done) | (simp only [ntl, nl, List.cons_append, List.nil_append, putAll, Act.put, List.setIfInBounds_toArray, List.set_cons_zero, List.set_cons_succ]; rfl)) (IH _ _ _ _ _ (by decide) (by decide) HN2.out))
 intro s W hN
 have HN := am hN
 clear hN
 refine norm_ (a' := ?_) ?_ ?_
 rotate_left
 ·simp only [ntl, nl, List.cons_append, List.nil_append, putAll, Act.put, List.setIfInBounds_toArray, List.set_cons_zero, List.set_cons_succ]
  rfl
 have hy0 := blk_cell (HN.out.hx rfl).1 0
 have hyf := blk_frozen (HN.out.hx rfl).1 0
 obtain ⟨z0, z1, z2, z3, z4, z5, z6, z7⟩ := cells8t (HN.out.hy rfl).1
 have zf := fun k => blk_frozen (HN.out.hy rfl).1 k
 have hne := HN.out.xy rfl rfl
 have hne2 : s.b7 ≠ s.b6 := fun e => hne e.symm
 refine last_ (i := 11) (N := none) #[true, true, true, true, true, true, true, true, true, true, true, true, false, false] rfl rfl (by kernel_rfl) (by decide) (fun K hK => ?_)
 refine skip_ (w1 := ?_) (by rfl) rfl ?_ ?_
 rotate_left
 ·go_simp
  rfl
 refine hK.out _ _ ?_
 clear hK K
 refine last_ (i := 12) (N := none) #[true, true, true, true, true, true, true, true, true, true, true, true, true, false] rfl rfl (by kernel_rfl) (by decide) (fun K hK => ?_)
 refine skip_ (w1 := ?_) (by rfl) rfl ?_ ?_
 rotate_left
 ·go_simp
  rfl
 refine hK.out _ _ ?_
 clear hK K
 repeat ((first | refine pu 13 8 (v := ?_) (a' := ?_) rfl rfl rfl (by kernel_rfl) (fun _ _ _ h => h) (Or.inl ⟨by rfl, ?_⟩) ?_ ?_); rotate_left; (intro w'; go_simp; with_reducible rfl); rotate_left; (simp only [Act.put, List.setIfInBounds_toArray, List.set_cons_zero, List.set_cons_succ, i64_w, i32_w]; rfl))
 refine done_ (by kernel_rfl) ?_
 generalize hw4 : World.setCell _ _ _ = w4
 have HRF := am (HN.out.ref hw4.symm)
 have H4 := am (H2.out.below HRF.out.b)
 clear hw4 HN hy0 hyf z0 z1 z2 z3 z4 z5 z6 z7 zf hne hne2 hHeld HST HD2
 have t0 := blk_cell H4.out.t 0
 go_upto_region 10 with (first | (go_at_call 11; refine (HTR.out _ H4.out.b).mono ?_; rintro e w5 ⟨A9, c9, rfl, hc5⟩; have H5 := am (And.intro (H4.out.below hc5.2) hc5); clear hc5) | fail)
 have HA6 := am (show Below w5.heap.size w5 (w5.alloc (boxT cp.length A9 c9)) ∧ (w5.alloc (boxT cp.length A9 c9)).heap[w5.heap.size]? = some (boxT cp.length A9 c9) ∧ (w5.alloc (boxT cp.length A9 c9)).heap.size = w5.heap.size + 1 from ⟨(Below.refl _ w5).alloc (Nat.le_refl _) _, blk_newest w5 _, by simp⟩)
 generalize hw6 : World.alloc w5 _ = w6 at HA6 ⊢
 have HA6 := am (show Below w5.heap.size w5 w6 ∧ w6.heap[w5.heap.size]? = some (boxT cp.length A9 c9) ∧ w6.heap.size = w5.heap.size + 1 from HA6.out)
 have H6 := am (H5.out.1.below HA6.out.1)
 clear hw6 t0
 obtain ⟨x0, x1, x2, x3, x4, x5, x6, x7⟩ := cells8L H6.out.c
 go_upto_region 11 with (first | (go_at_call 12; refine (HCH.out _ H6.out.b).mono ?_; rintro e w7 ⟨A10, c10, rfl, hc7⟩; have H7 := am (And.intro (H6.out.below hc7.2) hc7); clear hc7) | fail)
 have HA8 := am (show Below w7.heap.size w7 (w7.alloc (mbox8 D A10 c10 33)) ∧ (w7.alloc (mbox8 D A10 c10 33)).heap[w7.heap.size]? = some (mbox8 D A10 c10 33) ∧ (w7.alloc (mbox8 D A10 c10 33)).heap.size = w7.heap.size + 1 from ⟨(Below.refl _ w7).alloc (Nat.le_refl _) _, blk_newest w7 _, by simp⟩)
 generalize hw8 : World.alloc w7 _ = w8 at HA8 ⊢
 have HA8 := am (show Below w7.heap.size w7 w8 ∧ w8.heap[w7.heap.size]? = some (mbox8 D A10 c10 33) ∧ w8.heap.size = w7.heap.size + 1 from HA8.out)
 have H8 := am (H7.out.1.below HA8.out.1)
 clear hw8 x0 x1 x2 x3 x4 x5 x6 x7
 have HB68 := am (below_step H7.out.2.2 HA8.out.1)
 have HB58 := am (below_step HA6.out.1 HB68.out)
 have HX9 := am (blk_below HA6.out.2.1 HB68.out)
 have t9 := blk_cell HX9.out 0
 obtain ⟨x0, x1, x2, x3, x4, x5, x6, x7⟩ := cells8t HA8.out.2.1
 have HR9 := am (And.intro (Kd.S_below H5.out.2.1 HB58.out) (Kd.S_below H7.out.2.1 HA8.out.1))
 go_upto_region 12 with (first | (go_at_call 13; refine (HIM.out _ A9 c9 A10 c10 H8.out.b (Kd.S_reads' HR9.out.1).2.2 (Kd.S_reads' HR9.out.1).2.1 (Kd.S_reads' HR9.out.2).2.2 (Kd.S_reads' HR9.out.2).2.1).mono ?_; rintro e w9 ⟨hb9, A11, c11, A12, c12, M, rfl, hs11, hs12⟩; have H9 := am (And.intro hb9 (And.intro hs11 hs12)); clear hb9 hs11 hs12) | fail)
 obtain ⟨b9, hb9⟩ : ∃ b, b = w5.heap.size := ⟨_, rfl⟩
 obtain ⟨b10, hb10⟩ : ∃ b, b = w7.heap.size := ⟨_, rfl⟩
 have HA10 := am (show Below w9.heap.size w9 ((w9.alloc (boxT L.length A11 c11)).alloc (mbox8 R A12 c12 33)) ∧ ((w9.alloc (boxT L.length A11 c11)).alloc (mbox8 R A12 c12 33)).heap[w9.heap.size]? = some (boxT L.length A11 c11) ∧ ((w9.alloc (boxT L.length A11 c11)).alloc (mbox8 R A12 c12 33)).heap[w9.heap.size + 1]? = some (mbox8 R A12 c12 33) from by
  have hn := blk_newest (w9.alloc (boxT L.length A11 c11)) (mbox8 R A12 c12 33)
  rw [show (w9.alloc (boxT L.length A11 c11)).heap.size = w9.heap.size + 1 by simp] at hn
  exact ⟨((Below.refl _ w9).alloc (Nat.le_refl _) _).alloc (by simp) _, blk_below (blk_newest w9 _) ((Below.refl _ _).alloc (Nat.le_refl _) _), hn⟩)
 generalize hw10 : World.alloc (World.alloc w9 _) _ = w10
 have HA10 := am (show Below w9.heap.size w9 w10 ∧ w10.heap[w9.heap.size]? = some (boxT L.length A11 c11) ∧ w10.heap[w9.heap.size + 1]? = some (mbox8 R A12 c12 33) from by rw [← hw10]; exact HA10.out)
 clear hw10
 obtain ⟨b11, hb11⟩ : ∃ b, b = w9.heap.size := ⟨_, rfl⟩
 obtain ⟨p6, hp6⟩ : ∃ b, b = w6.heap.size := ⟨_, rfl⟩
 obtain ⟨p8, hp8⟩ : ∃ b, b = w8.heap.size := ⟨_, rfl⟩
 have HB810 := am (below_step H9.out.1 HA10.out.1)
 have HNN := am (show w4.heap.size ≤ b9 ∧ p6 = b9 + 1 ∧ p6 ≤ b10 ∧ p8 = b10 + 1 ∧ p8 ≤ b11 from by
  have h1 := H5.out.2.2.size
  have h2 := HA6.out.2.2
  have h3 := H7.out.2.2.size
  have h4 := HA8.out.2.2
  have h5 := H9.out.1.size
  omega)
 have HLB := am (show LB w w4 w10 A xs.length c C AC cC s cp D L R b9 A9 c9 b10 A10 c10 b11 A11 c11 (b11 + 1) A12 c12 from by
  have hb410 := below_step (below_step H5.out.2.2 HB58.out) HB810.out
  have hs2 := H4.out.b.size
  have hl := blk_lt H4.out.c
  have hr := HRF.out
  have h6 := blk_lt hr.x
  have h7 := blk_lt hr.y
  refine ⟨H4.out.b, hb410, blk_below H4.out.t hb410, blk_below H4.out.c hb410, blk_below hr.x hb410, blk_below hr.y hb410, Kd.F_mono (Kd.F_below hr.r hb410) (fun k hk => hk.2), hr.rc, Kd.F_mono (Kd.F_below hr.s hb410) (fun k hk => hk.2), hr.sc, ?_, ?_, ?_, ?_, by omega, h6, h7⟩
  ·rw [hb9]; exact blk_below HX9.out HB810.out
  ·rw [hb10]; exact blk_below HA8.out.2.1 HB810.out
  ·rw [hb11]; exact HA10.out.2.1
  ·rw [hb11]; exact HA10.out.2.2)
 have HLR := am (show LR w10 w4.heap.size b9 p6 b10 p8 M b11 (.slice A9 cp.length c9) (.slice A10 D.f7.length c10) (.slice A11 L.length c11) (.slice A12 R.f7.length c12) cp D.f7 L R.f7 from by
  have hn := HNN.out
  refine ⟨?_, ?_, ?_, ?_⟩
  ·exact Kd.S_mono (Kd.S_bound (Kd.S_below HR9.out.1 HB810.out)) (fun k hk => ⟨hk.2.1, by rw [hb9]; exact hk.1⟩)
  ·exact Kd.S_lower (Kd.S_mono (Kd.S_bound (Kd.S_below HR9.out.2 HB810.out)) (fun k hk => ⟨by rw [hp6]; exact hk.2.1, by rw [hb10]; exact hk.1⟩)) (by omega)
  ·exact Kd.S_lower (Kd.S_below (Kd.S_mono (Kd.S_bound H9.out.2.1) (fun k hk => ⟨hk.1, by rw [hp8]; exact hk.2.1, by rw [hb11]; exact hk.2.2.1⟩)) HA10.out.1) (by omega)
  ·exact Kd.S_lower (Kd.S_below (Kd.S_mono (Kd.S_bound H9.out.2.2) (fun k hk => ⟨hk.1, by rw [hp8]; exact hk.2.1, by rw [hb11]; exact hk.2.2.1⟩)) HA10.out.1) (by omega))
 rw [← hb9, ← hb10, ← hb11]
 clear hb9 hb10 hb11 hp6 hp8 HB810 HA10 H9 HR9 HX9 HB58 HB68 HA8 HA6 H8 H7 H6 H5 H4 HRF H2 t9 x0 x1 x2 x3 x4 x5 x6 x7
 have q11 := blk_cell HLB.out.x11 0
 have q6 := blk_cell HLB.out.x6 0
 obtain ⟨y0, y1, y2, y3, y4, y5, y6, y7⟩ := cells8t HLB.out.x12
 obtain ⟨u0, u1, u2, u3, u4, u5, u6, u7⟩ := cells8t HLB.out.x7
 go_upto_region 14 with (first | (go_at_call 14; refine (eqTree_same L HSM.out.2.2.1 _ A11 c11 s.A6 s.c6 (Kd.S_reads' HLR.out.s11).2.2 (Kd.S_reads' HLR.out.s11).2.1 (Kd.F_now HLB.out.f6) HLB.out.r6).mono ?_; rintro e w11 ⟨rfl, hb⟩; have HLB2 := am (HLB.out.below hb); have HLR2 := am (HLR.out.below hb); clear HLB HLR; have HLB := HLB2; have HLR := HLR2; clear HLB2 HLR2 hb; clear q11 q6 y0 y1 y2 y3 y4 y5 y6 y7 u0 u1 u2 u3 u4 u5 u6 u7; have q11 := blk_cell HLB.out.x11 0; have q6 := blk_cell HLB.out.x6 0; obtain ⟨y0, y1, y2, y3, y4, y5, y6, y7⟩ := cells8t HLB.out.x12; obtain ⟨u0, u1, u2, u3, u4, u5, u6, u7⟩ := cells8t HLB.out.x7) | (go_at_call 15; refine (eqChange_same R HSM.out.2.2.2 _ A12 c12 s.A7 s.c7 (Kd.S_reads' HLR.out.s12).2.2 (Kd.S_reads' HLR.out.s12).2.1 (Kd.F_now HLB.out.f7) HLB.out.r7).mono ?_; rintro e w12 ⟨rfl, hb⟩; have HLB2 := am (HLB.out.below hb); have HLR2 := am (HLR.out.below hb); clear HLB HLR; have HLB := HLB2; have HLR := HLR2; clear HLB2 HLR2 hb; clear q11 q6 y0 y1 y2 y3 y4 y5 y6 y7 u0 u1 u2 u3 u4 u5 u6 u7) | fail)
 have HD := am (And.intro (Below.refl w12.heap.size w12) (Below.refl w12.heap.size w12).drew)
 have HST2 := am (show ∀ W, Below w12.heap.size w12 W → W.cell? ⟨b9, 0, none⟩ = some (.slice A9 cp.length c9) ∧ W.cell? ⟨w.heap.size, 0, none⟩ = some (.slice A xs.length c) from fun W hW => ⟨blk_cell (HLB.out.below hW).x9 0, blk_cell (HLB.out.below hW).t 0⟩)
 go_cut [69] (fun v69 wc => v69 = .bool false ∧ Aside0 (Below w12.heap.size w12 wc))
 case first =>
  go_region_held3 (fun W => W.cell? ⟨b9, 0, none⟩ = some (.slice A9 cp.length c9) ∧ W.cell? ⟨w.heap.size, 0, none⟩ = some (.slice A xs.length c)) (first | (with_reducible exact HST2.out _ HD.out.1) | (with_reducible exact HST2.out _ HD.out.2) | (with_reducible exact HST2.out _ HB14.out) | (with_reducible exact HST2.out _ HB13.out) | go_keep) (first | (go_at_call 11; refine (HTR.out _ (below_step HLB.out.wb (by with_reducible first | exact HD.out.1 | exact HD.out.2))).mono ?_; rintro e w13 ⟨A13, c13, rfl, hc13⟩; have HB13 := am (below_step (by with_reducible first | exact HD.out.1 | exact HD.out.2) hc13.2); have HC13 := am (Kd.S_reads' hc13.1).2; clear hc13) | (go_at_call 14; refine (eqTree_same cp HSM.out.1 _ A9 c9 A13 c13 (Kd.S_reads' (Kd.S_below HLR.out.s9 HB13.out)).2.2 (Kd.S_reads' HLR.out.s9).2.1 HC13.out.2 HC13.out.1).mono ?_; rintro e w14 ⟨rfl, hb14⟩; have HB14 := am (below_step HB13.out hb14); clear hb14) | fail)
  all_goals
   go_wp2
   go_meet
   case rel => exact ⟨rfl, ⟨by with_reducible exact HB14.out⟩⟩
 case rest =>
  obtain ⟨rfl, HCC⟩ := hcut
  clear HST2 HD
  rename World => w14
  have hb := HCC.out
  clear HCC
  have HLB2 := am (HLB.out.below hb)
  have HLR2 := am (HLR.out.below hb)
  clear HLB HLR
  have HLB := HLB2
  have HLR := HLR2
  clear HLB2 HLR2 hb
  go_wp2_with fail
  have HD := am (And.intro (Below.refl w14.heap.size w14) (Below.refl w14.heap.size w14).drew)
  have HST2 := am (show ∀ W, Below w14.heap.size w14 W → (W.cell? ⟨b10, 0, none⟩ = some (.int .i64 D.f0) ∧ W.cell? ⟨b10, 1, none⟩ = some (.int .i64 D.f1) ∧ W.cell? ⟨b10, 2, none⟩ = some (.int .i64 D.f2) ∧ W.cell? ⟨b10, 3, none⟩ = some (.int .i64 D.f3) ∧ W.cell? ⟨b10, 4, none⟩ = some (.string D.f4) ∧ W.cell? ⟨b10, 5, none⟩ = some (.string D.f5) ∧ W.cell? ⟨b10, 6, none⟩ = some (.int .i64 D.f6) ∧ W.cell? ⟨b10, 7, none⟩ = some (.slice A10 D.f7.length c10)) ∧ W.cell? ⟨w.heap.size + 1, 0, none⟩ = some (.int .i64 C.f0) ∧ W.cell? ⟨w.heap.size + 1, 1, none⟩ = some (.int .i64 C.f1) ∧ W.cell? ⟨w.heap.size + 1, 2, none⟩ = some (.int .i64 C.f2) ∧ W.cell? ⟨w.heap.size + 1, 3, none⟩ = some (.int .i64 C.f3) ∧ W.cell? ⟨w.heap.size + 1, 4, none⟩ = some (.string C.f4) ∧ W.cell? ⟨w.heap.size + 1, 5, none⟩ = some (.string C.f5) ∧ W.cell? ⟨w.heap.size + 1, 6, none⟩ = some (.int .i64 C.f6) ∧ W.cell? ⟨w.heap.size + 1, 7, none⟩ = some (.slice AC C.f7.length cC) from fun W hW => ⟨cells8t (HLB.out.below hW).x10, cells8L (HLB.out.below hW).c⟩)
  go_cut [74] (fun v69 wc => v69 = .bool false ∧ Aside0 (Below w14.heap.size w14 wc))
  case first =>
   go_region_held3 (fun W => (W.cell? ⟨b10, 0, none⟩ = some (.int .i64 D.f0) ∧ W.cell? ⟨b10, 1, none⟩ = some (.int .i64 D.f1) ∧ W.cell? ⟨b10, 2, none⟩ = some (.int .i64 D.f2) ∧ W.cell? ⟨b10, 3, none⟩ = some (.int .i64 D.f3) ∧ W.cell? ⟨b10, 4, none⟩ = some (.string D.f4) ∧ W.cell? ⟨b10, 5, none⟩ = some (.string D.f5) ∧ W.cell? ⟨b10, 6, none⟩ = some (.int .i64 D.f6) ∧ W.cell? ⟨b10, 7, none⟩ = some (.slice A10 D.f7.length c10)) ∧ W.cell? ⟨w.heap.size + 1, 0, none⟩ = some (.int .i64 C.f0) ∧ W.cell? ⟨w.heap.size + 1, 1, none⟩ = some (.int .i64 C.f1) ∧ W.cell? ⟨w.heap.size + 1, 2, none⟩ = some (.int .i64 C.f2) ∧ W.cell? ⟨w.heap.size + 1, 3, none⟩ = some (.int .i64 C.f3) ∧ W.cell? ⟨w.heap.size + 1, 4, none⟩ = some (.string C.f4) ∧ W.cell? ⟨w.heap.size + 1, 5, none⟩ = some (.string C.f5) ∧ W.cell? ⟨w.heap.size + 1, 6, none⟩ = some (.int .i64 C.f6) ∧ W.cell? ⟨w.heap.size + 1, 7, none⟩ = some (.slice AC C.f7.length cC)) (first | (with_reducible exact HST2.out _ HD.out.1) | (with_reducible exact HST2.out _ HD.out.2) | (with_reducible exact HST2.out _ HB14.out) | (with_reducible exact HST2.out _ HB13.out) | go_keep) (first | (go_at_call 12; refine (HCH.out _ (below_step HLB.out.wb (by with_reducible first | exact HD.out.1 | exact HD.out.2))).mono ?_; rintro e w13 ⟨A13, c13, rfl, hc13⟩; have HB13 := am (below_step (by with_reducible first | exact HD.out.1 | exact HD.out.2) hc13.2); have HC13 := am (Kd.S_reads' hc13.1).2; clear hc13) | (go_at_call 15; refine (eqChange_same D HSM.out.2.1 _ A10 c10 A13 c13 (Kd.S_reads' (Kd.S_below HLR.out.s10 HB13.out)).2.2 (Kd.S_reads' HLR.out.s10).2.1 HC13.out.2 HC13.out.1).mono ?_; rintro e w14 ⟨rfl, hb14⟩; have HB14 := am (below_step HB13.out hb14); clear hb14) | fail)
   all_goals
    go_wp2
    go_meet
    case rel => exact ⟨rfl, ⟨by with_reducible exact HB14.out⟩⟩
  case rest =>
   obtain ⟨rfl, HCC⟩ := hcut
   clear HST2 HD
   rename World => w16
   have hb := HCC.out
   clear HCC
   have HLB2 := am (HLB.out.below hb)
   have HLR2 := am (HLR.out.below hb)
   clear HLB HLR
   have HLB := HLB2
   have HLR := HLR2
   clear HLB2 HLR2 hb
   have t9 := blk_cell HLB.out.x9 0
   go_upto_region 20 with (first | (go_at_call 16; refine (markTree_calls (.slice A9 cp.length c9) cp 1 w4 _ _ HLB.out.b HLR.out.s9 (by omega) (by have h1 := HSM.out.1.cost; have h2 := HNN.out; omega)).mono ?_; rintro e w15 ⟨z9, rfl, h1, h2, h3, h4, h5⟩; have HLB2 := am (HLB.out.kept h5 h4 (fun k hk => by have := HNN.out; omega)); have HLR2 := am (HLR.out.m9 ⟨by have := HNN.out; omega, by have := HNN.out; omega⟩ (by have := HNN.out; omega) h5 h3); skip; clear HLB HLR h1 h2 h3 h4 h5; have HLB := HLB2; have HLR := HLR2; clear HLB2 HLR2 t9) | fail)
   generalize hk1 : (1 : Int) + (cost cp : Int) = k1
   have HKB := am (show 0 ≤ k1 ∧ k1 ≤ 4398046511104 from by have := HSM.out.1.cost; omega)
   clear hk1
   obtain ⟨x0, x1, x2, x3, x4, x5, x6, x7⟩ := cells8t HLB.out.x10
   go_upto_region 21 with (first | (go_at_call 17; refine (markChange_calls D A10 c10 k1 w4 _ _ HLB.out.b HLR.out.s10 HKB.out.1 (by have h1 := HSM.out.2.1.cost; have h2 := HKB.out; omega)).mono ?_; rintro e w15 ⟨z10, rfl, h1, h2, h3, h4, h5⟩; have HLB2 := am (HLB.out.kept h5 h4 (fun k hk => by have := HNN.out; omega)); have HLR2 := am (HLR.out.m10 ⟨by have := HNN.out; omega, by have := HNN.out; omega⟩ h5 h3); skip; clear HLB HLR h1 h2 h3 h4 h5; have HLB := HLB2; have HLR := HLR2; clear HLB2 HLR2 x0 x1 x2 x3 x4 x5 x6 x7) | fail)
   generalize hk2 : k1 + (cost D.f7 : Int) = k2
   have hk2d : decide (k2 < 0) = false := decide_eq_false (by have := HKB.out; omega)
   clear hk2
   have q11 := blk_cell HLB.out.x11 0
   have q6 := blk_cell HLB.out.x6 0
   obtain ⟨y0, y1, y2, y3, y4, y5, y6, y7⟩ := cells8t HLB.out.x12
   obtain ⟨u0, u1, u2, u3, u4, u5, u6, u7⟩ := cells8t HLB.out.x7
   go_upto_region 24 with (first | (go_at_call 14; refine (eqTree_same L HSM.out.2.2.1 _ A11 c11 s.A6 s.c6 (Kd.S_reads' HLR.out.s11).2.2 (Kd.S_reads' HLR.out.s11).2.1 (Kd.F_now HLB.out.f6) HLB.out.r6).mono ?_; rintro e w11 ⟨rfl, hb⟩; have HLB2 := am (HLB.out.below hb); have HLR2 := am (HLR.out.below hb); clear HLB HLR; have HLB := HLB2; have HLR := HLR2; clear HLB2 HLR2 hb; clear q11 q6 y0 y1 y2 y3 y4 y5 y6 y7 u0 u1 u2 u3 u4 u5 u6 u7; have q11 := blk_cell HLB.out.x11 0; have q6 := blk_cell HLB.out.x6 0; obtain ⟨y0, y1, y2, y3, y4, y5, y6, y7⟩ := cells8t HLB.out.x12; obtain ⟨u0, u1, u2, u3, u4, u5, u6, u7⟩ := cells8t HLB.out.x7) | (go_at_call 15; refine (eqChange_same R HSM.out.2.2.2 _ A12 c12 s.A7 s.c7 (Kd.S_reads' HLR.out.s12).2.2 (Kd.S_reads' HLR.out.s12).2.1 (Kd.F_now HLB.out.f7) HLB.out.r7).mono ?_; rintro e w12 ⟨rfl, hb⟩; have HLB2 := am (HLB.out.below hb); have HLR2 := am (HLR.out.below hb); clear HLB HLR; have HLB := HLB2; have HLR := HLR2; clear HLB2 HLR2 hb; clear q11 q6 y0 y1 y2 y3 y4 y5 y6 y7 u0 u1 u2 u3 u4 u5 u6 u7) | fail)
   have q11 := blk_cell HLB.out.x11 0
   go_upto_region 25 with (first | (go_at_call 16; refine (markTree_calls (.slice A11 L.length c11) L 1 w4 _ _ HLB.out.b HLR.out.s11 (by omega) (by have h1 := HSM.out.2.2.1.cost; have h2 := HNN.out; omega)).mono ?_; rintro e w15 ⟨z11, rfl, h1, h2, h3, h4, h5⟩; have HLB2 := am (HLB.out.kept h5 h4 (fun k hk => by have := HNN.out; omega)); have HLR2 := am (HLR.out.m11 ⟨by have := HNN.out; omega, by have := HNN.out; omega⟩ (by have := HNN.out; omega) h5 h3); have HZ11 := am (And.intro h1 h2); clear HLB HLR h1 h2 h3 h4 h5; have HLB := HLB2; have HLR := HLR2; clear HLB2 HLR2 q11) | fail)
   generalize hm1 : (1 : Int) + (cost L : Int) = m1 at HZ11 ⊢
   have HKM := am (show 0 ≤ m1 ∧ m1 ≤ 4398046511104 from by have := HSM.out.2.2.1.cost; omega)
   clear hm1
   obtain ⟨y0, y1, y2, y3, y4, y5, y6, y7⟩ := cells8t HLB.out.x12
   go_upto_region 27 with (first | (go_at_call 17; refine (markChange_calls R A12 c12 m1 w4 _ _ HLB.out.b HLR.out.s12 HKM.out.1 (by have h1 := HSM.out.2.2.2.cost; have h2 := HKM.out; omega)).mono ?_; rintro e w15 ⟨z12, rfl, h1, h2, h3, h4, h5⟩; have HLB2 := am (HLB.out.kept h5 h4 (fun k hk => by have := HNN.out; omega)); have HLR2 := am (HLR.out.m12 ⟨by have := HNN.out; omega, by have := HNN.out; omega⟩ (by have := HNN.out; omega) h5 h3); have HZ12 := am (And.intro h1 h2); clear HLB HLR h1 h2 h3 h4 h5; have HLB := HLB2; have HLR := HLR2; clear HLB2 HLR2 y0 y1 y2 y3 y4 y5 y6 y7) | fail)
   generalize hm2 : m1 + (cost R.f7 : Int) = m2 at HZ12 ⊢
   have HKN := am (show 0 ≤ m2 ∧ m2 ≤ 8796093022208 from by have := HSM.out.2.2.2.cost; have := HKM.out; omega)
   clear hm2
   have m1d : decide (m1 < 0) = false := decide_eq_false (by have := HKM.out; omega)
   have m2d : decide (m2 < 0) = false := decide_eq_false (by have := HKN.out; omega)
   have HH1 := am (show ∀ W, LR W w4.heap.size b9 p6 b10 p8 M b11 (.slice A9 cp.length c9) (.slice A10 D.f7.length c10) (.slice A11 L.length c11) (.slice A12 R.f7.length c12) z9 z10 z11 z12 → Calls Tryz.prog 18 #[.agg #[.slice A11 L.length c11], .int .i64 1] W (IntEnd W m1) from fun W hW => by
    have h := heldTree_calls A11 c11 z11 1 m1 W (Kd.S_reads' hW.s11).2.2 (by have := Kd.S_reads' hW.s11; omega) HZ11.out.1 (by omega) (by have := HZ11.out.1.cost; have := HKM.out; omega)
    rw [HZ11.out.2] at h
    exact h)
   have HH2 := am (show ∀ W, LR W w4.heap.size b9 p6 b10 p8 M b11 (.slice A9 cp.length c9) (.slice A10 D.f7.length c10) (.slice A11 L.length c11) (.slice A12 R.f7.length c12) z9 z10 z11 z12 → Calls Tryz.prog 19 #[chv R A12 c12, .int .i64 m1] W (IntEnd W m2) from fun W hW =>
    heldChange_calls R z12 A12 c12 m1 m2 W HZ12.out.2 (Kd.S_reads' hW.s12).2.2 (by have := Kd.S_reads' hW.s12; omega) HZ12.out.1 HKM.out.1 (by have := HZ12.out.1.cost; have := HKN.out; omega))
   have q11 := blk_cell HLB.out.x11 0
   go_upto_region 30 with (first | (go_at_call 18; refine (HH1.out _ HLR.out).mono ?_; rintro e w17 ⟨rfl, hb⟩; have HLB2 := am (HLB.out.below hb); have HLR2 := am (HLR.out.below hb); clear HLB HLR; have HLB := HLB2; have HLR := HLR2; clear HLB2 HLR2 hb; clear q11; obtain ⟨y0, y1, y2, y3, y4, y5, y6, y7⟩ := cells8t HLB.out.x12) | fail)
   go_upto_region 35 with (first | (go_at_call 19; refine (HH2.out _ HLR.out).mono ?_; rintro e w18 ⟨rfl, hb⟩; have HLB2 := am (HLB.out.below hb); have HLR2 := am (HLR.out.below hb); clear HLB HLR; have HLB := HLB2; have HLR := HLR2; clear HLB2 HLR2 hb; clear y0 y1 y2 y3 y4 y5 y6 y7) | fail)
   have HI2 := am HIM.out.spec
   have HD2 := am (And.intro (Below.refl w18.heap.size w18) (Below.refl w18.heap.size w18).drew)
   have HST := am (show ∀ W, Below w18.heap.size w18 W → (W.cell? ⟨w.heap.size, 0, none⟩ = some (.slice A xs.length c) ∧ W.cell? ⟨w.heap.size + 1, 0, none⟩ = some (.int .i64 C.f0) ∧ W.cell? ⟨w.heap.size + 1, 1, none⟩ = some (.int .i64 C.f1) ∧ W.cell? ⟨w.heap.size + 1, 2, none⟩ = some (.int .i64 C.f2) ∧ W.cell? ⟨w.heap.size + 1, 3, none⟩ = some (.int .i64 C.f3) ∧ W.cell? ⟨w.heap.size + 1, 4, none⟩ = some (.string C.f4) ∧ W.cell? ⟨w.heap.size + 1, 5, none⟩ = some (.string C.f5) ∧ W.cell? ⟨w.heap.size + 1, 6, none⟩ = some (.int .i64 C.f6) ∧ W.cell? ⟨w.heap.size + 1, 7, none⟩ = some (.slice AC C.f7.length cC)) from fun W hW => ⟨blk_cell (blk_below HLB.out.t hW) 0, cells8L (blk_below HLB.out.c hW)⟩)
   refine start_ (n := 14) (S := fun W => W.cell? ⟨w.heap.size, 0, none⟩ = some (.slice A xs.length c) ∧ W.cell? ⟨w.heap.size + 1, 0, none⟩ = some (.int .i64 C.f0) ∧ W.cell? ⟨w.heap.size + 1, 1, none⟩ = some (.int .i64 C.f1) ∧ W.cell? ⟨w.heap.size + 1, 2, none⟩ = some (.int .i64 C.f2) ∧ W.cell? ⟨w.heap.size + 1, 3, none⟩ = some (.int .i64 C.f3) ∧ W.cell? ⟨w.heap.size + 1, 4, none⟩ = some (.string C.f4) ∧ W.cell? ⟨w.heap.size + 1, 5, none⟩ = some (.string C.f5) ∧ W.cell? ⟨w.heap.size + 1, 6, none⟩ = some (.int .i64 C.f6) ∧ W.cell? ⟨w.heap.size + 1, 7, none⟩ = some (.slice AC C.f7.length cC)) (ds := [11, 12]) #[false, false, false, false, false, false, false, false, false, false, false, false, false, false] (by kernel_rfl) rfl rfl (HST.out _ HD2.out.2) (fun hHeld => ?_)
   have HF0 := am (NF.start (w3 := w18) (cp := cp) (D := D) (L := L) (R := R) ⟨none, 0, none, 0, none, 0, none, 0, 0, 0⟩)
   generalize hwd : World.drew w18 = wd at HF0 hHeld ⊢
   clear hwd
   repeat ((first | refine tk 0 120 (v := ?_) (a' := ?_) rfl rfl rfl (by kernel_rfl) (fun _ _ _ h => h) (Or.inl ⟨by rfl, ?_⟩) hHeld ?_ ?_ | refine tk 2 122 (v := ?_) (a' := ?_) rfl rfl rfl (by kernel_rfl) (fun _ _ _ h => h) (Or.inl ⟨by rfl, ?_⟩) hHeld ?_ ?_); rotate_left; (rintro w' ⟨s0, s1, s2, s3, s4, s5, s6, s7, s8⟩; go_simp; with_reducible rfl); rotate_left; (simp only [Act.put, List.setIfInBounds_toArray, List.set_cons_zero, List.set_cons_succ, i64_w, i32_w]; rfl))
   refine joins_ (σ := Sg) fl bl (ntl 121 123 124 119 125 126 127 17 18 cp D L R code) (NF w18 cp D L R) ?_ ?_ (fun hC => hC 0 false false _ _ (by decide) HF0.out)
   rotate_left
   ·rintro k x y ⟨hk, hf⟩ IH
    obtain rfl | rfl | rfl | rfl : k = 0 ∨ k = 1 ∨ k = 2 ∨ k = 3 := by omega
    all_goals
     rcases x with _ | _ <;> rcases y with _ | _
    all_goals
     first
      | exact absurd ⟨rfl, rfl, rfl⟩ hf
      | skip
    all_goals
     intro sg W hN
     have HN := am hN
     clear hN hf
     refine norm_ (a' := ?_) ?_ ?_
     rotate_left
     ·simp only [ntl, nl, List.cons_append, List.nil_append, putAll, Act.put, List.setIfInBounds_toArray, List.set_cons_zero, List.set_cons_succ]
      rfl
     first
      | refine on3 1 9 10 121 17 18 rfl rfl rfl rfl rfl rfl rfl (by kernel_rfl) (by decide) (by decide) (by decide) (fun K hK => ?_) (fun K hK => ?_) (fun K hK => ?_)
      | refine on3 3 9 10 123 17 18 rfl rfl rfl rfl rfl rfl rfl (by kernel_rfl) (by decide) (by decide) (by decide) (fun K hK => ?_) (fun K hK => ?_) (fun K hK => ?_)
      | refine on3 4 9 10 124 17 18 rfl rfl rfl rfl rfl rfl rfl (by kernel_rfl) (by decide) (by decide) (by decide) (fun K hK => ?_) (fun K hK => ?_) (fun K hK => ?_)
      | refine on2 1 9 121 17 rfl rfl rfl rfl rfl (by kernel_rfl) (by decide) (by decide) (fun K hK => ?_) (fun K hK => ?_)
      | refine on2 3 9 123 17 rfl rfl rfl rfl rfl (by kernel_rfl) (by decide) (by decide) (fun K hK => ?_) (fun K hK => ?_)
      | refine on2 4 9 124 17 rfl rfl rfl rfl rfl (by kernel_rfl) (by decide) (by decide) (fun K hK => ?_) (fun K hK => ?_)
      | refine on2 1 10 121 18 rfl rfl rfl rfl rfl (by kernel_rfl) (by decide) (by decide) (fun K hK => ?_) (fun K hK => ?_)
      | refine on2 3 10 123 18 rfl rfl rfl rfl rfl (by kernel_rfl) (by decide) (by decide) (fun K hK => ?_) (fun K hK => ?_)
      | refine on2 4 10 124 18 rfl rfl rfl rfl rfl (by kernel_rfl) (by decide) (by decide) (fun K hK => ?_) (fun K hK => ?_)
      | refine on2 9 10 17 18 rfl rfl rfl rfl rfl (by kernel_rfl) (by decide) (by decide) (fun K hK => ?_) (fun K hK => ?_)
      | refine on1 1 121 rfl rfl rfl (by kernel_rfl) (by decide) (fun K hK => ?_)
      | refine on1 3 123 rfl rfl rfl (by kernel_rfl) (by decide) (fun K hK => ?_)
      | refine on1 4 124 rfl rfl rfl (by kernel_rfl) (by decide) (fun K hK => ?_)
      | refine on1 9 17 rfl rfl rfl (by kernel_rfl) (by decide) (fun K hK => ?_)
      | refine on1 10 18 rfl rfl rfl (by kernel_rfl) (by decide) (fun K hK => ?_)
     all_goals first
      | (refine goes_ Tryz.func11 (by kernel_rfl) rfl #[.agg #[.slice A xs.length c]] (by rfl) rfl rfl (by (try simp only [List.map_toArray, List.map_cons, List.map_nil]); first | done | rfl) ?_; refine (HTR.out _ (below_step HLB.out.wb (HN.out.b))).mono ?_; rintro e w' ⟨A1, c1, rfl, hc⟩; have HN2 := am (HN.out.one hc); refine ⟨_, rfl, ?_⟩; refine hK.out _ _ (HST.out _ HN2.out.b) (fun hHeld2 => ?_); clear hK K; refine norm_ (a' := ?_) ?_ ?_; rotate_left; (show Act.put _ (some 121) _ = _; simp only [Act.put, List.setIfInBounds_toArray, List.set_cons_zero, List.set_cons_succ, i64_w, i32_w]; rfl); exact norm_ (by first | (simp only [ntl, nl, List.cons_append, List.nil_append, putAll, Act.put, List.setIfInBounds_toArray, List.set_cons_zero, List.set_cons_succ]; done) | (simp only [ntl, nl, List.cons_append, List.nil_append, putAll, Act.put, List.setIfInBounds_toArray, List.set_cons_zero, List.set_cons_succ]; rfl)) (IH _ _ _ _ _ (by decide) (by decide) HN2.out))
      | (refine goes_ Tryz.func12 (by kernel_rfl) rfl #[chvL C AC cC] (by rfl) rfl rfl (by (try simp only [List.map_toArray, List.map_cons, List.map_nil]); first | done | rfl) ?_; refine (HCH.out _ (below_step HLB.out.wb (HN.out.b))).mono ?_; rintro e w' ⟨A2, c2, rfl, hc⟩; have HN2 := am (HN.out.two hc); refine ⟨_, rfl, ?_⟩; refine hK.out _ _ (HST.out _ HN2.out.b) (fun hHeld2 => ?_); clear hK K; refine norm_ (a' := ?_) ?_ ?_; rotate_left; (show Act.put _ (some 123) _ = _; simp only [Act.put, List.setIfInBounds_toArray, List.set_cons_zero, List.set_cons_succ, i64_w, i32_w]; rfl); exact norm_ (by first | (simp only [ntl, nl, List.cons_append, List.nil_append, putAll, Act.put, List.setIfInBounds_toArray, List.set_cons_zero, List.set_cons_succ]; done) | (simp only [ntl, nl, List.cons_append, List.nil_append, putAll, Act.put, List.setIfInBounds_toArray, List.set_cons_zero, List.set_cons_succ]; rfl)) (IH _ _ _ _ _ (by decide) (by decide) HN2.out))
      | (refine goes_ Tryz.func13 (by kernel_rfl) rfl #[.agg #[.slice sg.A1 cp.length sg.c1], chv D sg.A2 sg.c2] (by rfl) rfl rfl (by (try simp only [List.map_toArray, List.map_cons, List.map_nil]); first | done | rfl) ?_; refine (HI2.out _ _ _ _ _ (below_step HLB.out.wb (HN.out.b)) (HN.out.f1 (by decide)).1 (HN.out.f1 (by decide)).2 (HN.out.f2 (by decide)).1 (HN.out.f2 (by decide)).2).mono ?_; rintro e w' ⟨A6, c6, A7, c7, rfl, g1, g2, g3, g4, hb⟩; have HN2 := am (HN.out.three g1 g2 g3 g4 hb); refine ⟨_, rfl, ?_⟩; refine hK.out _ _ (HST.out _ HN2.out.b) (fun hHeld2 => ?_); clear hK K; refine norm_ (a' := ?_) ?_ ?_; rotate_left; (show Act.put _ (some 124) _ = _; simp only [Act.put, List.setIfInBounds_toArray, List.set_cons_zero, List.set_cons_succ, i64_w, i32_w]; rfl); (repeat ((first | refine pu 5 119 (v := ?_) (a' := ?_) rfl rfl rfl (by kernel_rfl) (fun _ _ _ h => h) (Or.inl ⟨by rfl, ?_⟩) ?_ ?_ | refine pu 6 125 (v := ?_) (a' := ?_) rfl rfl rfl (by kernel_rfl) (fun _ _ _ h => h) (Or.inl ⟨by rfl, ?_⟩) ?_ ?_ | refine pu 7 126 (v := ?_) (a' := ?_) rfl rfl rfl (by kernel_rfl) (fun _ _ _ h => h) (Or.inl ⟨by rfl, ?_⟩) ?_ ?_ | refine pu 8 127 (v := ?_) (a' := ?_) rfl rfl rfl (by kernel_rfl) (fun _ _ _ h => h) (Or.inl ⟨by rfl, ?_⟩) ?_ ?_); rotate_left; (intro w'; go_simp; with_reducible rfl); rotate_left; (simp only [Act.put, List.setIfInBounds_toArray, List.set_cons_zero, List.set_cons_succ, i64_w, i32_w]; rfl))); exact norm_ (by first | (simp only [ntl, nl, List.cons_append, List.nil_append, putAll, Act.put, List.setIfInBounds_toArray, List.set_cons_zero, List.set_cons_succ]; done) | (simp only [ntl, nl, List.cons_append, List.nil_append, putAll, Act.put, List.setIfInBounds_toArray, List.set_cons_zero, List.set_cons_succ]; rfl)) (IH _ _ _ _ _ (by decide) (by decide) HN2.out))
      | (refine box_step ?hg (N := 17) ?hd (cs := #[.slice none 0 0]) (t := 31) ?hr ?_; (case hd => rfl); (case hg => rfl); (case hr => first | (go_simp; done) | (go_simp; rfl)); intro gb hg w' hbox hb; have HN2 := am (HN.out.allocX hg hbox hb); refine hK.out _ _ (HST.out _ HN2.out.b) (fun hHeld2 => ?_); clear hK K; refine norm_ (a' := ?_) ?_ ?_; rotate_left; (show Act.put _ (some 17) _ = _; simp only [Act.put, List.setIfInBounds_toArray, List.set_cons_zero, List.set_cons_succ, i64_w, i32_w]; rfl); exact norm_ (by first | (simp only [ntl, nl, List.cons_append, List.nil_append, putAll, Act.put, List.setIfInBounds_toArray, List.set_cons_zero, List.set_cons_succ]; done) | (simp only [ntl, nl, List.cons_append, List.nil_append, putAll, Act.put, List.setIfInBounds_toArray, List.set_cons_zero, List.set_cons_succ]; rfl)) (IH _ _ _ _ _ (by decide) (by decide) HN2.out))
      | (refine box_step ?hg (N := 18) ?hd (cs := #[.int .i64 0, .int .i64 0, .int .i64 0, .int .i64 0, .string ⟨#[]⟩, .string ⟨#[]⟩, .int .i64 0, .slice none 0 0]) (t := 33) ?hr ?_; (case hd => rfl); (case hg => rfl); (case hr => first | (go_simp; done) | (go_simp; rfl)); intro gb hg w' hbox hb; have HN2 := am (HN.out.allocY hg hbox hb); refine hK.out _ _ (HST.out _ HN2.out.b) (fun hHeld2 => ?_); clear hK K; refine norm_ (a' := ?_) ?_ ?_; rotate_left; (show Act.put _ (some 18) _ = _; simp only [Act.put, List.setIfInBounds_toArray, List.set_cons_zero, List.set_cons_succ, i64_w, i32_w]; rfl); exact norm_ (by first | (simp only [ntl, nl, List.cons_append, List.nil_append, putAll, Act.put, List.setIfInBounds_toArray, List.set_cons_zero, List.set_cons_succ]; done) | (simp only [ntl, nl, List.cons_append, List.nil_append, putAll, Act.put, List.setIfInBounds_toArray, List.set_cons_zero, List.set_cons_succ]; rfl)) (IH _ _ _ _ _ (by decide) (by decide) HN2.out))
   intro sg W hN
   have HN := am hN
   clear hN
   refine norm_ (a' := ?_) ?_ ?_
   rotate_left
   ·simp only [ntl, nl, List.cons_append, List.nil_append, putAll, Act.put, List.setIfInBounds_toArray, List.set_cons_zero, List.set_cons_succ]
    rfl
   have hy0 := blk_cell (HN.out.hx rfl).1 0
   have hyf := blk_frozen (HN.out.hx rfl).1 0
   obtain ⟨z0, z1, z2, z3, z4, z5, z6, z7⟩ := cells8t (HN.out.hy rfl).1
   have zf := fun k => blk_frozen (HN.out.hy rfl).1 k
   have hne := HN.out.xy rfl rfl
   have hne2 : sg.b7 ≠ sg.b6 := fun e => hne e.symm
   refine last_ (i := 11) (N := none) #[true, true, true, true, true, true, true, true, true, true, true, true, false, false] rfl rfl (by kernel_rfl) (by decide) (fun K hK => ?_)
   refine skip_ (w1 := ?_) (by rfl) rfl ?_ ?_
   rotate_left
   ·go_simp
    rfl
   refine hK.out _ _ ?_
   clear hK K
   refine last_ (i := 12) (N := none) #[true, true, true, true, true, true, true, true, true, true, true, true, true, false] rfl rfl (by kernel_rfl) (by decide) (fun K hK => ?_)
   refine skip_ (w1 := ?_) (by rfl) rfl ?_ ?_
   rotate_left
   ·go_simp
    rfl
   refine hK.out _ _ ?_
   clear hK K
   repeat ((first | refine pu 13 19 (v := ?_) (a' := ?_) rfl rfl rfl (by kernel_rfl) (fun _ _ _ h => h) (Or.inl ⟨by rfl, ?_⟩) ?_ ?_); rotate_left; (intro w'; go_simp; with_reducible rfl); rotate_left; (simp only [Act.put, List.setIfInBounds_toArray, List.set_cons_zero, List.set_cons_succ, i64_w, i32_w]; rfl))
   refine done_ (by kernel_rfl) ?_
   generalize hw20 : World.setCell _ _ _ = w20
   have HRF := am (HN.out.ref hw20.symm)
   have hb := HRF.out.b
   have HLB2 := am (HLB.out.below hb)
   have HLR2 := am (HLR.out.below hb)
   clear HLB HLR
   have HLB := HLB2
   have HLR := HLR2
   clear HLB2 HLR2 hb
   clear hw20 HN hy0 hyf z0 z1 z2 z3 z4 z5 z6 z7 zf hne hne2 hHeld HST HD2
   have HRX := am (show w20.heap[sg.b7]? = some (mbox8 R sg.A7 sg.c7 33) ∧ Kd.F k95 w20 (fun _ => True) sg.A7 R.f7.length R.f7 ∧ R.f7.length ≤ sg.c7 from ⟨HRF.out.y, Kd.F_mono HRF.out.s (fun _ _ => trivial), HRF.out.sc⟩)
   have q17 := blk_cell HRF.out.x 0
   have q6 := blk_cell HLB.out.x6 0
   go_upto_region 38 with (first | (go_at_call 14; refine (eqTree_same L HSM.out.2.2.1 _ sg.A6 sg.c6 s.A6 s.c6 (Kd.F_now HRF.out.r) HRF.out.rc (Kd.F_now HLB.out.f6) HLB.out.r6).mono ?_; rintro e w21 ⟨rfl, hb⟩; have HRY := am (And.intro (blk_below HRX.out.1 hb) (And.intro (Kd.F_below HRX.out.2.1 hb) HRX.out.2.2)); have HLB2 := am (HLB.out.below hb); have HLR2 := am (HLR.out.below hb); clear HLB HLR; have HLB := HLB2; have HLR := HLR2; clear HLB2 HLR2 hb; clear q17 q6; obtain ⟨y0, y1, y2, y3, y4, y5, y6, y7⟩ := cells8t HRY.out.1; obtain ⟨u0, u1, u2, u3, u4, u5, u6, u7⟩ := cells8t HLB.out.x7) | (go_at_call 15; refine (eqChange_same R HSM.out.2.2.2 _ sg.A7 sg.c7 s.A7 s.c7 (Kd.F_now HRY.out.2.1) HRY.out.2.2 (Kd.F_now HLB.out.f7) HLB.out.r7).mono ?_; rintro e w22 ⟨rfl, hb⟩; have HLB2 := am (HLB.out.below hb); have HLR2 := am (HLR.out.below hb); clear HLB HLR; have HLB := HLB2; have HLR := HLR2; clear HLB2 HLR2 hb; clear y0 y1 y2 y3 y4 y5 y6 y7 u0 u1 u2 u3 u4 u5 u6 u7) | fail)
   have q11 := blk_cell HLB.out.x11 0
   go_wp2_with (first | (go_at_call 18; refine (HH1.out _ HLR.out).mono ?_; rintro e w17 ⟨rfl, hb⟩; have HLB2 := am (HLB.out.below hb); have HLR2 := am (HLR.out.below hb); clear HLB HLR; have HLB := HLB2; have HLR := HLR2; clear HLB2 HLR2 hb; clear q11; obtain ⟨y0, y1, y2, y3, y4, y5, y6, y7⟩ := cells8t HLB.out.x12) | (go_at_call 19; refine (HH2.out _ HLR.out).mono ?_; rintro e w18 ⟨rfl, hb⟩; have HLB2 := am (HLB.out.below hb); have HLR2 := am (HLR.out.below hb); clear HLB HLR; have HLB := HLB2; have HLR := HLR2; clear HLB2 HLR2 hb; clear y0 y1 y2 y3 y4 y5 y6 y7) | fail)
   go_ret
   exact ⟨rfl, HLB.out.wb⟩
end Go.Proofs.YthjgohbkpjhkeaaGreatDoor.Impl
