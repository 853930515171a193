/- Part 28 of the proof: DoMovR, DoMovS. -/
import Derived.Test.YthjgohbkpjhkeaaGreatDoorA1
import Derived.Test.YthjgohbkpjhkeaaGreatDoorA10
import Derived.Test.YthjgohbkpjhkeaaGreatDoorA24
import Derived.Test.YthjgohbkpjhkeaaGreatDoorA26
set_option linter.unusedVariables false
set_option linter.unusedSimpArgs false
set_option maxHeartbeats 4000000
set_option maxRecDepth 100000
namespace Go.Proofs.YthjgohbkpjhkeaaGreatDoor.Impl
open Go.RowKit Go.Proofs.YthjgohbkpjhkeaaGreatDoorW.PrintWords Go.Proofs.YthjgohbkpjhkeaaGreatDoorW.PrintLast Go.Proofs.YthjgohbkpjhkeaaGreatDoorW.PrintMore Go.Proofs.YthjgohbkpjhkeaaGreatDoor.PFnExactDo Go.Proofs.YthjgohbkpjhkeaaGreatDoor.MapLib Go.Proofs.YthjgohbkpjhkeaaGreatDoor.FireSpec Go.Proofs.YthjgohbkpjhkeaaGreatDoor.Tr
theorem removed (w : World) (ns : List S95) (A0 : Option Addr) (c0 : Nat) (hr : Kd.C k95 w A0 ns.length ns) (hc : ns.length ≤ c0) (j P : Nat) (i nx : Int) (c1 c2 : List S95) (k : Nat) (hP : P < ns.length) (n0 : Int) (hn0 : (ns.getD P z95).f0 = n0)
  (g1 : ParOf ns j P) (g2 : spec_l5Number.f k ns P j = some i) (g3 : spec_l5Next.f k ns P i = some nx) (g4 : CutTo ns j c1 c2) :
  Calls Tryz.prog 71 #[.agg #[.slice A0 ns.length c0], .int .i64 j] w (DidEnd w c1 ⟨1, 0, n0, nx, ⟨#[]⟩, ⟨#[]⟩, 0, c2⟩ 0) := by
 have HR := am hr
 have HG := am (And.intro g1 (And.intro g2 (And.intro g3 g4)))
 clear hr g1 g2 g3 g4
 go_enter Tryz.func71, Tryz.ntmps71
 go_wp2_with fail
 have H1 := am (B2.two (w := w) (x := .cells #[.slice A0 ns.length c0] 31) (y := mbox8 zC none 0 33))
 generalize World.alloc _ _ = w1 at H1 ⊢
 refine (HG.out.1 A0 c0 w1 (Kd.C_below HR.out H1.out.b) hc).mono ?_
 rintro e w2 ⟨ad1, n1, cc, rfl, hx1, hjn, hb2⟩
 have H2 := am (H1.out.below hb2)
 clear hb2 H1
 have e3 := eq_true (show (0 : Int) ≤ (j : Int) from by omega)
 have e4 := eq_true (show (j : Int) < (n1 : Int) from by omega)
 have xt := blk_cell H2.out.x 0
 go_wp2_with fail
 refine (spec_l5Number.calls k A0 c0 ns P j i w2 (Kd.C_below HR.out H2.out.b) hc HG.out.2.1).mono ?_
 rintro e w3 ⟨rfl, hb3⟩
 have H3 := am (H2.out.below hb3)
 clear hb3 H2 hx1 xt
 obtain ⟨ad, A3, c3, rfl, hx0, hx1, hx2, hx3, hx4, hx5, hl3, hi3⟩ := at_T95 (Kd.C_below HR.out H3.out.b) (P : Int) (by omega) (by omega)
 simp only [Int.toNat_natCast] at hx0
 clear hx1 hx2 hx3 hx4 hx5 hl3 hi3
 replace hx0 : w3.cell? (ad.add (P * 6)) = some (.int .i64 (ns.getD P z95).f0) := hx0
 rw [hn0] at hx0
 clear hn0
 have e5 := eq_true (show (0 : Int) ≤ (P : Int) from by omega)
 have e6 := eq_true (show (P : Int) < (ns.length : Int) from by omega)
 have HS := am (show ∀ W, Below w3.heap.size w3 W → W.cell? ⟨w.heap.size, 0, none⟩ = some (.slice (some ad) ns.length c0) ∧ W.cell? (ad.add (P * 6)) = some (.int .i64 n0) from fun W hW => ⟨pw_cell_below hW (blk_cell H3.out.x 0), pw_cell_below hW hx0⟩)
 clear hx0
 have HD := am (Below.refl w3.heap.size w3).drew
 have hut := Tryz.underlying33
 have hu2 := Tryz.underlying31
 have hu3 := Tryz.underlying95
 go_wp2_with fail
 refine start_ (S := fun W => W.cell? ⟨w.heap.size, 0, none⟩ = some (.slice (some ad) ns.length c0) ∧ W.cell? (ad.add (P * 6)) = some (.int .i64 n0)) (ds := [13]) #[false, false, false, false, false, false, false, false, false, false, false, false, false, false] (by kernel_rfl) rfl rfl (HS.out _ HD.out) (fun hHeld => ?_)
 generalize hwd : World.drew w3 = wd at HD hHeld ⊢
 clear hwd
 repeat ((first | refine pu 0 23 (v := ?_) (a' := ?_) rfl rfl rfl (by kernel_rfl) (fun _ _ _ h => h) (Or.inl ⟨by rfl, ?_⟩) ?_ ?_ | refine pu 2 25 (v := ?_) (a' := ?_) rfl rfl rfl (by kernel_rfl) (fun _ _ _ h => h) (Or.inl ⟨by rfl, ?_⟩) ?_ ?_ | refine pu 6 29 (v := ?_) (a' := ?_) rfl rfl rfl (by kernel_rfl) (fun _ _ _ h => h) (Or.inl ⟨by rfl, ?_⟩) ?_ ?_ | refine pu 8 31 (v := ?_) (a' := ?_) rfl rfl rfl (by kernel_rfl) (fun _ _ _ h => h) (Or.inl ⟨by rfl, ?_⟩) ?_ ?_ | refine pu 9 32 (v := ?_) (a' := ?_) rfl rfl rfl (by kernel_rfl) (fun _ _ _ h => h) (Or.inl ⟨by rfl, ?_⟩) ?_ ?_); rotate_left; (intro w'; go_simp; with_reducible rfl); rotate_left; (simp only [Act.put, List.setIfInBounds_toArray, List.set_cons_zero, List.set_cons_succ, i64_w, i32_w]; rfl))
 repeat ((first | refine tk 1 24 (v := ?_) (a' := ?_) rfl rfl rfl (by kernel_rfl) (fun _ _ _ h => h) (Or.inl ⟨by rfl, ?_⟩) hHeld ?_ ?_ | refine tk 7 30 (v := ?_) (a' := ?_) rfl rfl rfl (by kernel_rfl) (fun _ _ _ h => h) (Or.inl ⟨by rfl, ?_⟩) hHeld ?_ ?_); rotate_left; (rintro w' ⟨s0, s1⟩; go_simp; with_reducible rfl); rotate_left; (simp only [Act.put, List.setIfInBounds_toArray, List.set_cons_zero, List.set_cons_succ, i64_w, i32_w]; rfl))
 repeat ((first | refine pu 3 26 (v := ?_) (a' := ?_) rfl rfl rfl (by kernel_rfl) (fun _ _ _ h => h) (Or.inl ⟨by rfl, ?_⟩) ?_ ?_ | refine pu 4 27 (v := ?_) (a' := ?_) rfl rfl rfl (by kernel_rfl) (fun _ _ _ h => h) (Or.inl ⟨by rfl, ?_⟩) ?_ ?_); rotate_left; (intro w'; go_simp; with_reducible rfl); rotate_left; (simp only [Act.put, List.setIfInBounds_toArray, List.set_cons_zero, List.set_cons_succ, i64_w, i32_w]; rfl))
 repeat ((first | refine tk 5 28 (v := ?_) (a' := ?_) rfl rfl rfl (by kernel_rfl) (fun _ _ _ h => h) (Or.inl ⟨by rfl, ?_⟩) hHeld ?_ ?_); rotate_left; (rintro w' ⟨s0, s1⟩; go_simp; with_reducible rfl); rotate_left; (simp only [Act.put, List.setIfInBounds_toArray, List.set_cons_zero, List.set_cons_succ, i64_w, i32_w]; rfl))
 refine join_ (σ := Nat) 1 #[true, true, true, true, true, true, true, true, true, true, true, true, true, false] (fun g => [(33, .int .i64 nx), (9, .pointer (some ⟨g, 0, none⟩)), (34, chv ⟨1, 0, n0, nx, ⟨#[]⟩, ⟨#[]⟩, 0, []⟩ none 0)]) (fun g W => Below w3.heap.size w3 W ∧ W.heap[g]? = some (mbox8 zC none 0 33) ∧ w3.heap.size ≤ g) ?_ (fun hC => ?_)
 rotate_left
 ·refine on2 10 12 33 9 rfl rfl rfl rfl rfl (by kernel_rfl) (by decide) (by decide) (fun K hK => ?_) (fun K hK => ?_)
  ·refine goes_ Tryz.func100 (by kernel_rfl) rfl #[.slice (some ad) ns.length c0, .int .i64 P, .int .i64 i] (by rfl) rfl rfl (by simp only [List.map_toArray, List.map_cons, List.map_nil]; rfl) ?_
   refine (spec_l5Next.calls k _ _ ns P i nx _ (Kd.C_below HR.out (below_step H3.out.b HD.out)) hc HG.out.2.2.1).mono ?_
   rintro e w' ⟨rfl, hb⟩
   refine ⟨_, rfl, ?_⟩
   have HB := am (below_step HD.out hb)
   refine hK.out _ _ (HS.out _ HB.out) (fun hHeld => ?_)
   clear hK K
   refine norm_ (a' := ?_) ?_ ?_
   rotate_left
   ·show Act.put _ (some 33) _ = _
    simp only [Act.put, List.setIfInBounds_toArray, List.set_cons_zero, List.set_cons_succ, i64_w, i32_w]
    rfl
   repeat ((first | refine pu 11 34 (v := ?_) (a' := ?_) rfl rfl rfl (by kernel_rfl) (fun _ _ _ h => h) (Or.inl ⟨by rfl, ?_⟩) ?_ ?_); rotate_left; (intro w'; go_simp; with_reducible rfl); rotate_left; (simp only [Act.put, List.setIfInBounds_toArray, List.set_cons_zero, List.set_cons_succ, i64_w, i32_w]; rfl))
   refine on1 12 9 rfl rfl rfl (by kernel_rfl) (by decide) (fun K hK => ?_)
   refine box_step ?hg (N := 9) ?hd (cs := #[.int .i64 0, .int .i64 0, .int .i64 0, .int .i64 0, .string ⟨#[]⟩, .string ⟨#[]⟩, .int .i64 0, .slice none 0 0]) (t := 33) ?hr ?_; (case hd => rfl); (case hg => rfl); (case hr => first | (go_simp; done) | (go_simp; rfl))
   intro gb hg w' hbox hb
   have HB2 := am (below_step HB.out hb)
   refine hK.out _ _ (HS.out _ HB2.out) (fun hHeld => ?_)
   exact norm_ (by simp only [putAll, Act.put, List.setIfInBounds_toArray, List.set_cons_zero, List.set_cons_succ]; rfl) (hC gb w' ⟨HB2.out, hbox, by rw [hg]; exact HB.out.size⟩)
  ·refine box_step ?hg (N := 9) ?hd (cs := #[.int .i64 0, .int .i64 0, .int .i64 0, .int .i64 0, .string ⟨#[]⟩, .string ⟨#[]⟩, .int .i64 0, .slice none 0 0]) (t := 33) ?hr ?_; (case hd => rfl); (case hg => rfl); (case hr => first | (go_simp; done) | (go_simp; rfl))
   intro gb hg w' hbox hb
   have HB := am (below_step HD.out hb)
   have HX := am (show w3.heap.size ≤ gb from by rw [hg]; exact HD.out.size)
   refine hK.out _ _ (HS.out _ HB.out) (fun hHeld => ?_)
   clear hK K hg hb
   refine norm_ (a' := ?_) ?_ ?_
   rotate_left
   ·show Act.put _ (some 9) _ = _
    simp only [Act.put, List.setIfInBounds_toArray, List.set_cons_zero, List.set_cons_succ, i64_w, i32_w]
    rfl
   refine on1 10 33 rfl rfl rfl (by kernel_rfl) (by decide) (fun K hK => ?_)
   refine goes_ Tryz.func100 (by kernel_rfl) rfl #[.slice (some ad) ns.length c0, .int .i64 P, .int .i64 i] (by rfl) rfl rfl (by simp only [List.map_toArray, List.map_cons, List.map_nil]; rfl) ?_
   refine (spec_l5Next.calls k _ _ ns P i nx _ (Kd.C_below HR.out (below_step H3.out.b HB.out)) hc HG.out.2.2.1).mono ?_
   rintro e w' ⟨rfl, hb⟩
   refine ⟨_, rfl, ?_⟩
   have HB2 := am (below_step HB.out hb)
   refine hK.out _ _ (HS.out _ HB2.out) (fun hHeld => ?_)
   clear hK K
   refine norm_ (a' := ?_) ?_ ?_
   rotate_left
   ·show Act.put _ (some 33) _ = _
    simp only [Act.put, List.setIfInBounds_toArray, List.set_cons_zero, List.set_cons_succ, i64_w, i32_w]
    rfl
   repeat ((first | refine pu 11 34 (v := ?_) (a' := ?_) rfl rfl rfl (by kernel_rfl) (fun _ _ _ h => h) (Or.inl ⟨by rfl, ?_⟩) ?_ ?_); rotate_left; (intro w'; go_simp; with_reducible rfl); rotate_left; (simp only [Act.put, List.setIfInBounds_toArray, List.set_cons_zero, List.set_cons_succ, i64_w, i32_w]; rfl))
   exact norm_ (by simp only [putAll, Act.put, List.setIfInBounds_toArray, List.set_cons_zero, List.set_cons_succ]; rfl) (hC gb w' ⟨HB2.out, blk_below hbox hb, HX.out⟩)
 intro g W hF
 have HF := am hF
 clear hF
 refine norm_ (a' := ?_) ?_ ?_
 rotate_left
 ·simp only [putAll, Act.put, List.setIfInBounds_toArray, List.set_cons_zero, List.set_cons_succ]
  rfl
 obtain ⟨z0, z1, z2, z3, z4, z5, z6, z7⟩ := cells8t HF.out.2.1
 have zf := fun k => blk_frozen HF.out.2.1 k
 refine last_ (i := 13) (N := none) #[true, true, true, true, true, true, true, true, true, true, true, true, true, true] rfl rfl (by kernel_rfl) (by decide) (fun K hK => ?_)
 refine skip_ (w1 := ?_) (by rfl) rfl ?_ ?_
 rotate_left
 ·go_simp
  rfl
 refine hK.out _ _ ?_
 clear hK K
 refine done_ (by kernel_rfl) ?_
 generalize hw4 : World.setCell _ _ _ = w4
 have hlt : w.heap.size + 1 < w3.heap.size := blk_lt H3.out.y
 obtain ⟨s1, s2, s3, s4⟩ := set8 (C := ⟨1, 0, n0, nx, ⟨#[]⟩, ⟨#[]⟩, 0, []⟩) (A := none) (c := 0) HF.out.2.1 hw4.symm
 have h3 := H3.out.below HF.out.1
 have hgl := HF.out.2.2
 have H4 := am (show B2 w w4 _ _ from ⟨s4 _ _ h3.b (by omega), (s2 _ (by omega)).trans h3.x, (s2 _ (by omega)).trans h3.y⟩)
 have HG4 := am (And.intro s1 (show w.heap.size + 1 < g from by omega))
 clear z0 z1 z2 z3 z4 z5 z6 z7 zf hw4 HF hgl h3 s1 s2 s3 s4 hlt HS HD hHeld H3
 have xt := blk_cell H4.out.x 0
 go_wp2_with fail
 refine (HG.out.2.2.2.calls _ c0 w4 (Kd.C_below HR.out H4.out.b) hc).mono ?_
 rintro e w5 ⟨B0, d0, B1, d1, rfl, hN0, hN1, hb5⟩
 have hg := blk_below HG4.out.1 hb5
 have hgs : g < w4.heap.size := blk_lt HG4.out.1
 have H5 := am (H4.out.below hb5)
 have HN := am (And.intro hN0.1 (And.intro hN0.2 (And.intro hN1.1 hN1.2)))
 obtain ⟨r1, r2, r3, r4⟩ := set_block (j := 7) (v := .slice B1 c2.length d1) rfl hg
 simp only [List.setIfInBounds_toArray, List.set_cons_succ, List.set_cons_zero] at r1
 have zf7 := blk_frozen hg 7
 obtain ⟨y0, y1, y2, y3, y4, y5, y6, y7⟩ := cells8t hg
 clear hN0 hN1 hb5 xt
 go_wp2_with fail
 generalize World.setCell w5 _ _ = w6 at r1 r2 r3 r4 ⊢
 have hg6 : w6.drew.heap[g]? = some (mbox8 ⟨1, 0, n0, nx, ⟨#[]⟩, ⟨#[]⟩, 0, c2⟩ B1 d1 33) := r1
 have hz6 : w6.drew.heap[w.heap.size + 1]? = some (mbox8 zC none 0 33) := (r2 _ (by have := HG4.out.2; omega)).trans H5.out.y
 have HB6 := am (show Below w.heap.size w w6.drew from (r4 _ _ H5.out.b (by have := HG4.out.2; omega)).drew)
 have HK6 := am (show ∀ k, k ≠ g → w6.drew.heap[k]? = w5.heap[k]? from r2)
 clear y0 y1 y2 y3 y4 y5 y6 y7 zf7 hg r1 r2 r3 r4
 refine start_ (S := fun W => W.cell? ⟨g, 0, none⟩ = some (.int .i64 1) ∧ W.cell? ⟨g, 1, none⟩ = some (.int .i64 0) ∧ W.cell? ⟨g, 2, none⟩ = some (.int .i64 n0) ∧ W.cell? ⟨g, 3, none⟩ = some (.int .i64 nx) ∧ W.cell? ⟨g, 4, none⟩ = some (.string ⟨#[]⟩) ∧ W.cell? ⟨g, 5, none⟩ = some (.string ⟨#[]⟩) ∧ W.cell? ⟨g, 6, none⟩ = some (.int .i64 0) ∧ W.cell? ⟨g, 7, none⟩ = some (.slice B1 c2.length d1)) (ds := [3]) #[false, false, false, false, false] (by kernel_rfl) rfl rfl (cells8t hg6) (fun hHeld => ?_)
 generalize World.drew w6 = w7 at hg6 hz6 HB6 HK6 hHeld ⊢
 repeat ((first | refine pu 0 44 (v := ?_) (a' := ?_) rfl rfl rfl (by kernel_rfl) (fun _ _ _ h => h) (Or.inl ⟨by rfl, ?_⟩) ?_ ?_); rotate_left; (intro w'; go_simp; with_reducible rfl); rotate_left; (simp only [Act.put, List.setIfInBounds_toArray, List.set_cons_zero, List.set_cons_succ, i64_w, i32_w]; rfl))
 repeat ((first | refine pu 2 4 (v := ?_) (a' := ?_) rfl rfl rfl (by kernel_rfl) (fun _ _ _ h => h) (Or.inl ⟨by rfl, ?_⟩) ?_ ?_); rotate_left; (intro w'; go_simp; with_reducible rfl); rotate_left; (simp only [Act.put, List.setIfInBounds_toArray, List.set_cons_zero, List.set_cons_succ, i64_w, i32_w]; rfl))
 repeat ((first | refine tk 1 45 (v := ?_) (a' := ?_) rfl rfl rfl (by kernel_rfl) (fun _ _ _ h => h) (Or.inl ⟨by rfl, ?_⟩) hHeld ?_ ?_); rotate_left; (rintro w' ⟨s0, s1, s2, s3, s4, s5, s6, s7⟩; go_simp; with_reducible rfl); rotate_left; (simp only [Act.put, List.setIfInBounds_toArray, List.set_cons_zero, List.set_cons_succ, i64_w, i32_w]; rfl))
 clear hHeld
 obtain ⟨z0, z1, z2, z3, z4, z5, z6, z7⟩ := cells8t hz6
 have zf := fun k => blk_frozen hz6 k
 refine last_ (i := 3) (N := none) #[true, true, true, true, false] rfl rfl (by kernel_rfl) (by decide) (fun K hK => ?_)
 refine skip_ (w1 := ?_) (by rfl) rfl ?_ ?_
 rotate_left
 ·go_simp
  rfl
 refine hK.out _ _ ?_
 clear hK K
 repeat ((first | refine pu 4 6 (v := ?_) (a' := ?_) rfl rfl rfl (by kernel_rfl) (fun _ _ _ h => h) (Or.inl ⟨by rfl, ?_⟩) ?_ ?_); rotate_left; (intro w'; go_simp; with_reducible rfl); rotate_left; (simp only [Act.put, List.setIfInBounds_toArray, List.set_cons_zero, List.set_cons_succ, i64_w, i32_w]; rfl))
 refine done_ (by kernel_rfl) ?_
 generalize hw8 : World.setCell _ _ _ = w8
 obtain ⟨h1, h2, h3, h4⟩ := set8 (C := ⟨1, 0, n0, nx, ⟨#[]⟩, ⟨#[]⟩, 0, c2⟩) (A := B1) (c := d1) hz6 hw8.symm
 obtain ⟨y0, y1, y2, y3, y4, y5, y6, y7⟩ := cells8t h1
 have HZ := am (h4 _ _ HB6.out (by omega))
 have hgs4 := HG4.out.2
 have hwz : w.heap.size ≤ w4.heap.size := H4.out.b.size
 have HM := am (show ∀ k, w4.heap.size ≤ k → k < w5.heap.size → w8.heap[k]? = w5.heap[k]? from fun k h5 _ => (h2 k (by omega)).trans (HK6.out k (by omega)))
 clear h1 h2 h3 h4 hw8 z0 z1 z2 z3 z4 z5 z6 z7 zf hz6 hg6
 go_wp2
 refine bodyPost_ret (v := .tuple #[.slice B0 c1.length d0, chv ⟨1, 0, n0, nx, ⟨#[]⟩, ⟨#[]⟩, 0, c2⟩ B1 d1, .int .i64 0]) (by simp [results, Tryz.results71, go_sem, y0, y1, y2, y3, y4, y5, y6, y7, hut]) rfl (show DidEnd _ _ _ _ _ _ from ?_)
 exact ⟨_, _, _, _, rfl, Kd.F_mono (Kd.F_step HN.out.1 HM.out) (fun k hk => by omega), HN.out.2.1, Kd.F_mono (Kd.F_step HN.out.2.2.1 HM.out) (fun k hk => by omega), HN.out.2.2.2, HZ.out⟩
end Go.Proofs.YthjgohbkpjhkeaaGreatDoor.Impl
set_option maxHeartbeats 4000000
set_option maxRecDepth 100000
namespace Go.Proofs.YthjgohbkpjhkeaaGreatDoor.Impl
open Go.RowKit Go.Proofs.YthjgohbkpjhkeaaGreatDoorW.PrintWords Go.Proofs.YthjgohbkpjhkeaaGreatDoorW.PrintLast Go.Proofs.YthjgohbkpjhkeaaGreatDoorW.PrintMore Go.Proofs.YthjgohbkpjhkeaaGreatDoor.PFnExactDo Go.Proofs.YthjgohbkpjhkeaaGreatDoor.MapLib Go.Proofs.YthjgohbkpjhkeaaGreatDoor.FireSpec Go.Proofs.YthjgohbkpjhkeaaGreatDoor.Tr
theorem moved (w : World) (ns : List S95) (C : Chg) (A0 : Option Addr) (c0 : Nat) (A : Option Addr) (c : Nat) (hr : Kd.C k95 w A0 ns.length ns) (hc : ns.length ≤ c0) (j p e : Nat) (x : Int) (hp : p < ns.length) (k : Nat) (g0 : spec_l3Skip.f k ns j = some (e : Int)) (hb a b d : Bool)
  (hh : decide ((rd_T95 ns (p : Int)).f1 = 1 ∨ (rd_T95 ns (p : Int)).f1 = 2) = hb) (ha : decide (j ≤ p) = a) (hb2 : decide (p < e) = b) (hd : (C.f3 == C.f1) = d)
  (out : List S95) (R : Chg) (code : Int) (hbad : (!hb || (a && b) || d) = true → out = [] ∧ R = zC ∧ code = 3) (hgood : (!hb || (a && b) || d) = false → ∃ k P i n0 nx p2 c1 c2, MoveOk ns C j p x k P i n0 nx p2 c1 c2 out ∧ R = ⟨3, C.f1, n0, nx, ⟨#[]⟩, ⟨#[]⟩, 0, []⟩ ∧ code = 0) :
  Calls Tryz.prog 72 #[.agg #[.slice A0 ns.length c0], chv C A c, .int .i64 j, .int .i64 p, .int .i64 x] w (DidEnd w out R code) := by
 have HR := am hr
 have HG := am g0
 have HBAD := am (And.intro hbad hgood)
 clear hr g0 hbad hgood
 go_enter Tryz.func72, Tryz.ntmps72
 go_wp2_with fail
 have H1 := am (AB.three (w := w) (A0 := A0) (n := ns.length) (c0 := c0) (C := C) (A := A) (c := c))
 generalize World.alloc _ _ = w1 at H1 ⊢
 refine (spec_l3Skip.calls k A0 c0 ns j e w1 (Kd.C_below HR.out H1.out.s.b) hc HG.out).mono ?_
 rintro ee w2 ⟨rfl, hd2⟩
 have H2 := am (H1.out.below hd2.below)
 clear hd2 H1
 obtain ⟨xt, x0, x1, x2, x3, x4, x5, x6, x7⟩ := H2.out.s.cells
 clear x0 x2 x4 x5 x6 x7
 obtain ⟨ad, A3, c3, rfl, hx0, hx1, hx2, hx3, hx4, hx5, hl3, hi3⟩ := at_T95 (Kd.C_below HR.out H2.out.s.b) (p : Int) (by omega) (by omega)
 simp only [Int.toNat_natCast] at hx0 hx1 hx2 hx3 hx4 hx5
 generalize rd_T95 ns (p : Int) = nd at hx0 hx1 hx2 hx3 hx4 hx5 hl3 hi3 hh
 obtain ⟨n0, n1, n2, ys, n4, n5⟩ := nd
 simp only at hx0 hx1 hx2 hx3 hx4 hx5 hl3 hi3 hh
 have HH := am (spec_l5Holds.calls n0 n1 n2 A3 c3 ys n4 n5 hb w2 hi3 hl3 (by rw [← hh]; exact holds_f ⟨n0, n1, n2, ys, n4, n5⟩))
 have e5 := eq_true (show (0 : Int) ≤ (p : Int) from by omega)
 have e6 := eq_true (show (p : Int) < (ns.length : Int) from by omega)
 clear hl3 hi3 hh
 go_upto_region 2 with fail
 go_cut [46] (fun v46 wc => v46 = .bool (!hb || (a && b) || d) ∧ Aside0 (Below w2.heap.size w2 wc))
 case first =>
  cases hb <;> cases a <;> cases b <;> cases d
  all_goals
   go_wp2_with (first | (go_at_call 69; refine HH.out.mono ?_; rintro e w3 ⟨rfl, hb3⟩; have H3 := am (H2.out.below hb3); have HB3 := am hb3; have y1 := H3.out.s.cells.2.2.1; have y3 := H3.out.s.cells.2.2.2.2.1; clear hb3) | fail)
   go_meet
   case rel => exact ⟨rfl, ⟨HB3.out⟩⟩
 case rest =>
  obtain ⟨rfl, HF⟩ := hcut
  have H3 := am (H2.out.below HF.out)
  clear HF H2 HH xt x1 x3 hx0 hx1 hx2 hx3 hx4 hx5 ha hb2 hd e5 e6
  generalize (!hb || (a && b) || d) = cnd at HBAD ⊢
  have hut := Tryz.underlying33
  cases cnd
  ·obtain ⟨k, P, i, n0, nx, p2, c1, c2, hM, rfl, rfl⟩ := HBAD.out.2 rfl
   have HM := am hM
   have hPl := hM.lP
   clear hM HBAD
   obtain ⟨xt, x0, x1, x2, x3, x4, x5, x6, x7⟩ := H3.out.s.cells
   go_wp2_with fail
   refine (HM.out.g1 _ c0 wc (Kd.C_below HR.out H3.out.s.b) hc).mono ?_
   rintro e' w4 ⟨ad1, n1, cc, rfl, hx1, hjn, hb4⟩
   have H4 := am (H3.out.below hb4)
   clear hb4 H3 xt x0 x1 x2 x3 x4 x5 x6 x7
   have e3 := eq_true (show (0 : Int) ≤ (j : Int) from by omega)
   have e4 := eq_true (show (j : Int) < (n1 : Int) from by omega)
   obtain ⟨xt, x0, x1, x2, x3, x4, x5, x6, x7⟩ := H4.out.s.cells
   go_wp2_with fail
   refine (spec_l5Number.calls k _ c0 ns P j i w4 (Kd.C_below HR.out H4.out.s.b) hc HM.out.g2).mono ?_
   rintro e' w3 ⟨rfl, hb3⟩
   have H3 := am (H4.out.below hb3)
   clear hb3 H4 hx1 xt x0 x1 x2 x3 x4 x5 x6 x7 e3 e4
   obtain ⟨ad', A3, c3, hA, hx0, hx1, hx2, hx3, hx4, hx5, hl3, hi3⟩ := at_T95 (Kd.C_below HR.out H3.out.s.b) (P : Int) (by omega) (by omega)
   cases hA
   simp only [Int.toNat_natCast] at hx0
   replace hx0 : w3.cell? (ad.add (P * 6)) = some (.int .i64 (ns.getD P z95).f0) := hx0
   rw [HM.out.hn] at hx0
   clear hx1 hx2 hx3 hx4 hx5 hl3 hi3
   have e5 := eq_true (show (0 : Int) ≤ (P : Int) from by omega)
   have e6 := eq_true (show (P : Int) < (ns.length : Int) from by omega)
   have HS := am (show ∀ W, Below w3.heap.size w3 W → W.cell? ⟨w.heap.size + 1, 1, none⟩ = some (.int .i64 C.f1) ∧ W.cell? ⟨w.heap.size, 0, none⟩ = some (.slice (some ad) ns.length c0) ∧ W.cell? (ad.add (P * 6)) = some (.int .i64 n0) from fun W hW => ⟨pw_cell_below hW H3.out.s.cells.2.2.1, pw_cell_below hW H3.out.s.cells.1, pw_cell_below hW hx0⟩)
   clear hx0
   have HD := am (Below.refl w3.heap.size w3).drew
   have hu2 := Tryz.underlying31
   have hu3 := Tryz.underlying95
   go_wp2_with fail
   refine start_ (S := fun W => W.cell? ⟨w.heap.size + 1, 1, none⟩ = some (.int .i64 C.f1) ∧ W.cell? ⟨w.heap.size, 0, none⟩ = some (.slice (some ad) ns.length c0) ∧ W.cell? (ad.add (P * 6)) = some (.int .i64 n0)) (ds := [15]) #[false, false, false, false, false, false, false, false, false, false, false, false, false, false, false, false] (by kernel_rfl) rfl rfl (HS.out _ HD.out) (fun hHeld => ?_)
   generalize hwd : World.drew w3 = wd at HD hHeld ⊢
   clear hwd
   repeat ((first | refine pu 0 60 (v := ?_) (a' := ?_) rfl rfl rfl (by kernel_rfl) (fun _ _ _ h => h) (Or.inl ⟨by rfl, ?_⟩) ?_ ?_ | refine pu 2 62 (v := ?_) (a' := ?_) rfl rfl rfl (by kernel_rfl) (fun _ _ _ h => h) (Or.inl ⟨by rfl, ?_⟩) ?_ ?_ | refine pu 4 64 (v := ?_) (a' := ?_) rfl rfl rfl (by kernel_rfl) (fun _ _ _ h => h) (Or.inl ⟨by rfl, ?_⟩) ?_ ?_ | refine pu 8 68 (v := ?_) (a' := ?_) rfl rfl rfl (by kernel_rfl) (fun _ _ _ h => h) (Or.inl ⟨by rfl, ?_⟩) ?_ ?_ | refine pu 10 70 (v := ?_) (a' := ?_) rfl rfl rfl (by kernel_rfl) (fun _ _ _ h => h) (Or.inl ⟨by rfl, ?_⟩) ?_ ?_ | refine pu 11 71 (v := ?_) (a' := ?_) rfl rfl rfl (by kernel_rfl) (fun _ _ _ h => h) (Or.inl ⟨by rfl, ?_⟩) ?_ ?_); rotate_left; (intro w'; go_simp; with_reducible rfl); rotate_left; (simp only [Act.put, List.setIfInBounds_toArray, List.set_cons_zero, List.set_cons_succ, i64_w, i32_w]; rfl))
   repeat ((first | refine tk 1 61 (v := ?_) (a' := ?_) rfl rfl rfl (by kernel_rfl) (fun _ _ _ h => h) (Or.inl ⟨by rfl, ?_⟩) hHeld ?_ ?_ | refine tk 3 63 (v := ?_) (a' := ?_) rfl rfl rfl (by kernel_rfl) (fun _ _ _ h => h) (Or.inl ⟨by rfl, ?_⟩) hHeld ?_ ?_ | refine tk 9 69 (v := ?_) (a' := ?_) rfl rfl rfl (by kernel_rfl) (fun _ _ _ h => h) (Or.inl ⟨by rfl, ?_⟩) hHeld ?_ ?_); rotate_left; (rintro w' ⟨s0, s1, s2⟩; go_simp; with_reducible rfl); rotate_left; (simp only [Act.put, List.setIfInBounds_toArray, List.set_cons_zero, List.set_cons_succ, i64_w, i32_w]; rfl))
   repeat ((first | refine pu 5 65 (v := ?_) (a' := ?_) rfl rfl rfl (by kernel_rfl) (fun _ _ _ h => h) (Or.inl ⟨by rfl, ?_⟩) ?_ ?_ | refine pu 6 66 (v := ?_) (a' := ?_) rfl rfl rfl (by kernel_rfl) (fun _ _ _ h => h) (Or.inl ⟨by rfl, ?_⟩) ?_ ?_); rotate_left; (intro w'; go_simp; with_reducible rfl); rotate_left; (simp only [Act.put, List.setIfInBounds_toArray, List.set_cons_zero, List.set_cons_succ, i64_w, i32_w]; rfl))
   repeat ((first | refine tk 7 67 (v := ?_) (a' := ?_) rfl rfl rfl (by kernel_rfl) (fun _ _ _ h => h) (Or.inl ⟨by rfl, ?_⟩) hHeld ?_ ?_); rotate_left; (rintro w' ⟨s0, s1, s2⟩; go_simp; with_reducible rfl); rotate_left; (simp only [Act.put, List.setIfInBounds_toArray, List.set_cons_zero, List.set_cons_succ, i64_w, i32_w]; rfl))
   refine join_ (σ := Nat) 1 #[true, true, true, true, true, true, true, true, true, true, true, true, true, true, true, false] (fun g => [(72, .int .i64 nx), (16, .pointer (some ⟨g, 0, none⟩)), (73, chv ⟨3, C.f1, n0, nx, ⟨#[]⟩, ⟨#[]⟩, 0, []⟩ none 0)]) (fun g W => Below w3.heap.size w3 W ∧ W.heap[g]? = some (mbox8 zC none 0 33) ∧ w3.heap.size ≤ g) ?_ (fun hC => ?_)
   rotate_left
   ·refine on2 12 14 72 16 rfl rfl rfl rfl rfl (by kernel_rfl) (by decide) (by decide) (fun K hK => ?_) (fun K hK => ?_)
    ·refine goes_ Tryz.func100 (by kernel_rfl) rfl #[.slice (some ad) ns.length c0, .int .i64 P, .int .i64 i] (by rfl) rfl rfl (by simp only [List.map_toArray, List.map_cons, List.map_nil]; rfl) ?_
     refine (spec_l5Next.calls k _ _ ns P i nx _ (Kd.C_below HR.out (below_step H3.out.s.b HD.out)) hc HM.out.g3).mono ?_
     rintro e w' ⟨rfl, hb⟩
     refine ⟨_, rfl, ?_⟩
     have HB := am (below_step HD.out hb)
     refine hK.out _ _ (HS.out _ HB.out) (fun hHeld => ?_)
     clear hK K
     refine norm_ (a' := ?_) ?_ ?_
     rotate_left
     ·show Act.put _ (some 72) _ = _
      simp only [Act.put, List.setIfInBounds_toArray, List.set_cons_zero, List.set_cons_succ, i64_w, i32_w]
      rfl
     repeat ((first | refine pu 13 73 (v := ?_) (a' := ?_) rfl rfl rfl (by kernel_rfl) (fun _ _ _ h => h) (Or.inl ⟨by rfl, ?_⟩) ?_ ?_); rotate_left; (intro w'; go_simp; with_reducible rfl); rotate_left; (simp only [Act.put, List.setIfInBounds_toArray, List.set_cons_zero, List.set_cons_succ, i64_w, i32_w]; rfl))
     refine on1 14 16 rfl rfl rfl (by kernel_rfl) (by decide) (fun K hK => ?_)
     refine box_step ?hg (N := 16) ?hd (cs := #[.int .i64 0, .int .i64 0, .int .i64 0, .int .i64 0, .string ⟨#[]⟩, .string ⟨#[]⟩, .int .i64 0, .slice none 0 0]) (t := 33) ?hr ?_; (case hd => rfl); (case hg => rfl); (case hr => first | (go_simp; done) | (go_simp; rfl))
     intro gb hg w' hbox hb
     have HB2 := am (below_step HB.out hb)
     refine hK.out _ _ (HS.out _ HB2.out) (fun hHeld => ?_)
     refine norm_ (a' := ?_) ?_ ?_
     rotate_left
     ·show Act.put _ (some 16) _ = _
      simp only [Act.put, List.setIfInBounds_toArray, List.set_cons_zero, List.set_cons_succ, i64_w, i32_w]
      rfl
     exact norm_ (by simp only [putAll, Act.put, List.setIfInBounds_toArray, List.set_cons_zero, List.set_cons_succ]; rfl) (hC gb w' ⟨HB2.out, hbox, by rw [hg]; exact HB.out.size⟩)
    ·refine box_step ?hg (N := 16) ?hd (cs := #[.int .i64 0, .int .i64 0, .int .i64 0, .int .i64 0, .string ⟨#[]⟩, .string ⟨#[]⟩, .int .i64 0, .slice none 0 0]) (t := 33) ?hr ?_; (case hd => rfl); (case hg => rfl); (case hr => first | (go_simp; done) | (go_simp; rfl))
     intro gb hg w' hbox hb
     have HB := am (below_step HD.out hb)
     have HX := am (show w3.heap.size ≤ gb from by rw [hg]; exact HD.out.size)
     refine hK.out _ _ (HS.out _ HB.out) (fun hHeld => ?_)
     clear hK K hg hb
     refine norm_ (a' := ?_) ?_ ?_
     rotate_left
     ·show Act.put _ (some 16) _ = _
      simp only [Act.put, List.setIfInBounds_toArray, List.set_cons_zero, List.set_cons_succ, i64_w, i32_w]
      rfl
     refine on1 12 72 rfl rfl rfl (by kernel_rfl) (by decide) (fun K hK => ?_)
     refine goes_ Tryz.func100 (by kernel_rfl) rfl #[.slice (some ad) ns.length c0, .int .i64 P, .int .i64 i] (by rfl) rfl rfl (by simp only [List.map_toArray, List.map_cons, List.map_nil]; rfl) ?_
     refine (spec_l5Next.calls k _ _ ns P i nx _ (Kd.C_below HR.out (below_step H3.out.s.b HB.out)) hc HM.out.g3).mono ?_
     rintro e w' ⟨rfl, hb⟩
     refine ⟨_, rfl, ?_⟩
     have HB2 := am (below_step HB.out hb)
     refine hK.out _ _ (HS.out _ HB2.out) (fun hHeld => ?_)
     clear hK K
     refine norm_ (a' := ?_) ?_ ?_
     rotate_left
     ·show Act.put _ (some 72) _ = _
      simp only [Act.put, List.setIfInBounds_toArray, List.set_cons_zero, List.set_cons_succ, i64_w, i32_w]
      rfl
     repeat ((first | refine pu 13 73 (v := ?_) (a' := ?_) rfl rfl rfl (by kernel_rfl) (fun _ _ _ h => h) (Or.inl ⟨by rfl, ?_⟩) ?_ ?_); rotate_left; (intro w'; go_simp; with_reducible rfl); rotate_left; (simp only [Act.put, List.setIfInBounds_toArray, List.set_cons_zero, List.set_cons_succ, i64_w, i32_w]; rfl))
     exact norm_ (by simp only [putAll, Act.put, List.setIfInBounds_toArray, List.set_cons_zero, List.set_cons_succ]; rfl) (hC gb w' ⟨HB2.out, blk_below hbox hb, HX.out⟩)
   intro g W hF
   have HF := am hF
   clear hF
   refine norm_ (a' := ?_) ?_ ?_
   rotate_left
   ·simp only [putAll, Act.put, List.setIfInBounds_toArray, List.set_cons_zero, List.set_cons_succ]
    rfl
   obtain ⟨z0, z1, z2, z3, z4, z5, z6, z7⟩ := cells8t HF.out.2.1
   have zf := fun k => blk_frozen HF.out.2.1 k
   refine last_ (i := 15) (N := none) #[true, true, true, true, true, true, true, true, true, true, true, true, true, true, true, true] rfl rfl (by kernel_rfl) (by decide) (fun K hK => ?_)
   refine skip_ (w1 := ?_) (by rfl) rfl ?_ ?_
   rotate_left
   ·go_simp
    rfl
   refine hK.out _ _ ?_
   clear hK K
   refine done_ (by kernel_rfl) ?_
   generalize hw4 : World.setCell _ _ _ = w4
   have hlt : w.heap.size + 2 < w3.heap.size := blk_lt H3.out.z
   obtain ⟨s1, s2, s3, s4⟩ := set8 (C := ⟨3, C.f1, n0, nx, ⟨#[]⟩, ⟨#[]⟩, 0, []⟩) (A := none) (c := 0) HF.out.2.1 hw4.symm
   have h3 := H3.out.below HF.out.1
   have hgl := HF.out.2.2
   have H4 := am (show AB w w4 _ _ _ _ _ _ from ⟨⟨s4 _ _ h3.s.b (by omega), (s2 _ (by omega)).trans h3.s.t, (s2 _ (by omega)).trans h3.s.c⟩, (s2 _ (by omega)).trans h3.z⟩)
   have HG4 := am (And.intro s1 (show w.heap.size + 2 < g from by omega))
   clear z0 z1 z2 z3 z4 z5 z6 z7 zf hw4 HF hgl h3 s1 s2 s3 s4 hlt HS HD hHeld H3 HG
   rename_i hk7
   refine hk7 _ _ (wp_seq_k fun K9 hK9 => ?_)
   obtain ⟨x2, hx2⟩ : ∃ x2, (if P = p ∧ i < x then wrap64 (x - 1) else x) = x2 := ⟨_, rfl⟩
   have HP := am (show PutTo c1 p2 x2 c2 out from by rw [← hx2]; exact HM.out.g6)
   go_cut [4] (fun v4 wc => v4 = .int .i64 x2 ∧ Aside0 (Below w4.heap.size w4 wc))
   case first =>
    by_cases hq : P = p
    ·have q1 : ((P : Int) == (p : Int)) = true := by simp [hq]
     have q2 : (P == p) = true := by simp [hq]
     have q3 : decide (P = p) = true := by simp [hq]
     by_cases hi : i < x
     ·have q4 : decide (i < x) = true := by simp [hi]
      have HI := am (show x2 = wrap64 (x - 1) from by rw [← hx2, if_pos ⟨hq, hi⟩])
      clear hq hi hx2
      go_wp2
      go_meet
      case rel => exact ⟨by rw [HI.out], ⟨Below.refl _ _⟩⟩
     ·have q4 : decide (i < x) = false := by simp [hi]
      have HI := am (show x2 = x from by rw [← hx2, if_neg (fun h => hi h.2)])
      clear hq hi hx2
      go_wp2
      go_meet
      case rel => exact ⟨by rw [HI.out], ⟨Below.refl _ _⟩⟩
    ·have q1 : ((P : Int) == (p : Int)) = false := by simp; omega
     have q2 : (P == p) = false := by simp [hq]
     have q3 : decide (P = p) = false := by simp [hq]
     have HI := am (show x2 = x from by rw [← hx2, if_neg (fun h => hq h.1)])
     clear hq hx2
     go_wp2
     go_meet
     case rel => exact ⟨by rw [HI.out], ⟨Below.refl _ _⟩⟩
   clear hx2
   obtain ⟨rfl, HF⟩ := hcut
   rename World => w5
   have H5 := am (H4.out.below HF.out)
   have HG5 := am (And.intro (blk_below HG4.out.1 HF.out) HG4.out.2)
   clear HF H4 HG4 e5 e6
   obtain ⟨xt, x0, x1, x2, x3, x4, x5, x6, x7⟩ := H5.out.s.cells
   go_wp2_with fail
   refine (HM.out.g4.calls _ c0 w5 (Kd.C_below HR.out H5.out.s.b) hc).mono ?_
   rintro e' w6 ⟨B0, d0, B1, d1, rfl, hN0, hN1, hb6⟩
   have HN := am (And.intro (hN0.1 _ (fun _ _ _ => rfl)) (And.intro hN0.2 (And.intro (hN1.1 _ (fun _ _ _ => rfl)) hN1.2)))
   have H6 := am (H5.out.below hb6)
   have HG6 := am (And.intro (blk_below HG5.out.1 hb6) HG5.out.2)
   clear hN0 hN1 hb6 H5 HG5 xt x0 x1 x2 x3 x4 x5 x6 x7
   obtain ⟨xt, x0, x1, x2, x3, x4, x5, x6, x7⟩ := H6.out.s.cells
   go_wp2_with fail
   refine (spec_l4At.calls k _ d0 c1 C.f2 p2 w6 HN.out.1 HN.out.2.1 HM.out.g5).mono ?_
   rintro e' w7 ⟨rfl, hb7⟩
   have HN7 := am (And.intro (Kd.C_below HN.out.1 hb7) (Kd.C_below HN.out.2.2.1 hb7))
   have H7 := am (H6.out.below hb7)
   have HG7 := am (And.intro (blk_below HG6.out.1 hb7) HG6.out.2)
   clear hb7 H6 HG6 xt x0 x1 x2 x3 x4 x5 x6 x7
   go_wp2_with fail
   have HS := am (show ∀ W, Below w7.heap.size w7 W → W.cell? ⟨g, 0, none⟩ = some (.int .i64 3) ∧ W.cell? ⟨g, 1, none⟩ = some (.int .i64 C.f1) ∧ W.cell? ⟨g, 2, none⟩ = some (.int .i64 n0) ∧ W.cell? ⟨g, 3, none⟩ = some (.int .i64 nx) ∧ W.cell? ⟨g, 4, none⟩ = some (.string ⟨#[]⟩) ∧ W.cell? ⟨g, 5, none⟩ = some (.string ⟨#[]⟩) ∧ W.cell? ⟨g, 6, none⟩ = some (.int .i64 0) ∧ W.cell? ⟨g, 7, none⟩ = some (.slice none 0 0) from fun W hW => cells8t (C := ⟨3, C.f1, n0, nx, ⟨#[]⟩, ⟨#[]⟩, 0, []⟩) (blk_below HG7.out.1 hW))
   have HD := am (Below.refl w7.heap.size w7).drew
   refine start_ (S := fun W => W.cell? ⟨g, 0, none⟩ = some (.int .i64 3) ∧ W.cell? ⟨g, 1, none⟩ = some (.int .i64 C.f1) ∧ W.cell? ⟨g, 2, none⟩ = some (.int .i64 n0) ∧ W.cell? ⟨g, 3, none⟩ = some (.int .i64 nx) ∧ W.cell? ⟨g, 4, none⟩ = some (.string ⟨#[]⟩) ∧ W.cell? ⟨g, 5, none⟩ = some (.string ⟨#[]⟩) ∧ W.cell? ⟨g, 6, none⟩ = some (.int .i64 0) ∧ W.cell? ⟨g, 7, none⟩ = some (.slice none 0 0)) (ds := [7]) #[false, false, false, false, false, false, false, false, false] (by kernel_rfl) rfl rfl (HS.out _ HD.out) (fun hHeld => ?_)
   generalize hwd : World.drew w7 = wd at HD hHeld ⊢
   clear hwd
   repeat ((first | refine pu 0 96 (v := ?_) (a' := ?_) rfl rfl rfl (by kernel_rfl) (fun _ _ _ h => h) (Or.inl ⟨by rfl, ?_⟩) ?_ ?_ | refine pu 1 97 (v := ?_) (a' := ?_) rfl rfl rfl (by kernel_rfl) (fun _ _ _ h => h) (Or.inl ⟨by rfl, ?_⟩) ?_ ?_ | refine pu 2 98 (v := ?_) (a' := ?_) rfl rfl rfl (by kernel_rfl) (fun _ _ _ h => h) (Or.inl ⟨by rfl, ?_⟩) ?_ ?_ | refine pu 3 99 (v := ?_) (a' := ?_) rfl rfl rfl (by kernel_rfl) (fun _ _ _ h => h) (Or.inl ⟨by rfl, ?_⟩) ?_ ?_); rotate_left; (intro w'; go_simp; with_reducible rfl); rotate_left; (simp only [Act.put, List.setIfInBounds_toArray, List.set_cons_zero, List.set_cons_succ, i64_w, i32_w]; rfl))
   repeat ((first | refine tk 5 101 (v := ?_) (a' := ?_) rfl rfl rfl (by kernel_rfl) (fun _ _ _ h => h) (Or.inl ⟨by rfl, ?_⟩) hHeld ?_ ?_); rotate_left; (rintro w' ⟨s0, s1, s2, s3, s4, s5, s6, s7⟩; go_simp; with_reducible rfl); rotate_left; (simp only [Act.put, List.setIfInBounds_toArray, List.set_cons_zero, List.set_cons_succ, i64_w, i32_w]; rfl))
   refine on1 4 100 rfl rfl rfl (by kernel_rfl) (by decide) (fun K hK => ?_)
   refine goes_ Tryz.func70 (by kernel_rfl) rfl #[.slice B0 c1.length d0, .int .i64 p2, .int .i64 x2, .slice B1 c2.length d1] (by rfl) rfl rfl (by simp only [List.map_toArray, List.map_cons, List.map_nil]; rfl) ?_
   refine (HP.out.calls _ _ _ _ _ (Kd.C_below HN7.out.1 HD.out) HN.out.2.1 (Kd.C_below HN7.out.2 HD.out) HN.out.2.2.2).mono ?_
   rintro e' w8 ⟨Bo, dd, rfl, hN0, hN9, hb8⟩
   have HB8 := am (below_step HD.out hb8)
   have hwl : w7.heap.size ≤ wd.heap.size := HD.out.size
   have HO := am (And.intro hN0 hN9)
   clear hN0 hN9 hb8
   refine ⟨_, rfl, hK.out _ _ (HS.out _ HB8.out) (fun hHeld => ?_)⟩
   clear hK K hHeld
   refine norm_ (a' := ?_) ?_ ?_
   rotate_left
   ·show Act.put _ (some 100) _ = _
    simp only [Act.put, List.setIfInBounds_toArray, List.set_cons_zero, List.set_cons_succ, i64_w, i32_w]
    rfl
   repeat ((first | refine pu 6 10 (v := ?_) (a' := ?_) rfl rfl rfl (by kernel_rfl) (fun _ _ _ h => h) (Or.inl ⟨by rfl, ?_⟩) ?_ ?_); rotate_left; (intro w'; go_simp; with_reducible rfl); rotate_left; (simp only [Act.put, List.setIfInBounds_toArray, List.set_cons_zero, List.set_cons_succ, i64_w, i32_w]; rfl))
   have H8 := am (H7.out.below HB8.out)
   obtain ⟨z0, z1, z2, z3, z4, z5, z6, z7⟩ := H8.out.zc
   obtain ⟨f0, f1, f2, f3, f4, f5, f6, f7⟩ := H8.out.zf
   refine last_ (i := 7) (N := none) #[true, true, true, true, true, true, true, true, false] rfl rfl (by kernel_rfl) (by decide) (fun K hK => ?_)
   refine skip_ (w1 := ?_) (by rfl) rfl ?_ ?_
   rotate_left
   ·go_simp
    rfl
   refine hK.out _ _ ?_
   clear hK K
   repeat ((first | refine pu 8 12 (v := ?_) (a' := ?_) rfl rfl rfl (by kernel_rfl) (fun _ _ _ h => h) (Or.inl ⟨by rfl, ?_⟩) ?_ ?_); rotate_left; (intro w'; go_simp; with_reducible rfl); rotate_left; (simp only [Act.put, List.setIfInBounds_toArray, List.set_cons_zero, List.set_cons_succ, i64_w, i32_w]; rfl))
   refine done_ (by kernel_rfl) ?_
   clear z0 z1 z2 z3 z4 z5 z6 z7 f0 f1 f2 f3 f4 f5 f6 f7
   generalize hw9 : World.setCell _ _ _ = w9
   obtain ⟨h1, h2, h3, h4⟩ := H8.out.set (R := ⟨3, C.f1, n0, nx, ⟨#[]⟩, ⟨#[]⟩, 0, []⟩) (Ar := none) (cr := 0) hw9.symm
   obtain ⟨y0, y1, y2, y3, y4, y5, y6, y7⟩ := cells8t h1
   have hz8 : w.heap.size + 2 < w7.heap.size := blk_lt H7.out.z
   have HZ := am h4
   have HM8 := am (show ∀ k, wd.heap.size ≤ k → k < w8.heap.size → w9.heap[k]? = w8.heap[k]? from fun k h5 _ => h2 k (by omega))
   clear h1 h2 h3 h4 hw9
   go_wp2
   refine bodyPost_ret (v := .tuple #[.slice Bo out.length dd, chv ⟨3, C.f1, n0, nx, ⟨#[]⟩, ⟨#[]⟩, 0, []⟩ none 0, .int .i64 0]) (by simp [results, Tryz.results72, go_sem, y0, y1, y2, y3, y4, y5, y6, y7, hut]) rfl (show DidEnd _ _ _ _ _ _ from ?_)
   exact ⟨_, _, _, _, rfl, Kd.F_mono (Kd.F_step HO.out.1 HM8.out) (fun k hk => by omega), HO.out.2, none_reads _ _, Nat.le_refl _, HZ.out⟩
  ·obtain ⟨rfl, rfl, rfl⟩ := HBAD.out.1 rfl
   have HB3 := am (show Below wc.heap.size wc (wc.alloc (.cells #[] 95)) from (Below.refl _ wc).alloc (Nat.le_refl _) _)
   have HS3 := am (H3.out.below HB3.out)
   obtain ⟨z0, z1, z2, z3, z4, z5, z6, z7⟩ := HS3.out.zc
   obtain ⟨f0, f1, f2, f3, f4, f5, f6, f7⟩ := HS3.out.zf
   go_wp2
   clear z0 z1 z2 z3 z4 z5 z6 z7 f0 f1 f2 f3 f4 f5 f6 f7
   generalize hw3 : World.alloc wc _ = w3 at HB3 HS3 ⊢
   generalize hw9 : World.setCell _ _ _ = w9
   obtain ⟨h1, h2, h3, h4⟩ := HS3.out.set (R := zC) (Ar := none) (cr := 0) hw9.symm
   obtain ⟨y0, y1, y2, y3, y4, y5, y6, y7⟩ := cells8t h1
   have HZ := am h4
   clear h1 h2 h3 h4 hw9
   refine bodyPost_ret (v := .tuple #[.slice (some ⟨wc.heap.size, 0, none⟩) 0 0, chv zC none 0, .int .i64 3]) (by simp [results, Tryz.results72, go_sem, y0, y1, y2, y3, y4, y5, y6, y7, hut]) rfl (show DidEnd _ _ _ _ _ _ from ?_)
   exact ⟨_, 0, none, 0, rfl, none_reads _ _, Nat.le_refl _, none_reads _ _, Nat.le_refl _, HZ.out⟩
end Go.Proofs.YthjgohbkpjhkeaaGreatDoor.Impl
