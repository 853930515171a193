/- Part 26 of the proof: DoSpecN, DoSpecO, DoSpecP, DoNode. -/
import Derived.Test.YthjgohbkpjhkeaaGreatDoorA1
import Derived.Test.YthjgohbkpjhkeaaGreatDoorA25
import Derived.Deep.RegionHeld3
import Derived.BigRegion
import Derived.Test.YthjgohbkpjhkeaaGreatDoorA2
import Derived.Test.YthjgohbkpjhkeaaGreatDoorA10
set_option linter.unusedVariables false
set_option linter.unusedSimpArgs false
set_option maxHeartbeats 4000000
set_option maxRecDepth 100000
namespace Go.Proofs.YthjgohbkpjhkeaaGreatDoor.Impl
open Go.RowKit Go.Proofs.YthjgohbkpjhkeaaGreatDoorW.PrintWords Go.Proofs.YthjgohbkpjhkeaaGreatDoorW.PrintLast Go.Proofs.YthjgohbkpjhkeaaGreatDoorW.PrintMore Go.Proofs.YthjgohbkpjhkeaaGreatDoor.PFnExactDo Go.Proofs.YthjgohbkpjhkeaaGreatDoor.MapLib Go.Proofs.YthjgohbkpjhkeaaGreatDoor.FireSpec Go.Proofs.YthjgohbkpjhkeaaGreatDoor.Tr
theorem did_ins_skip (w : World) (ns : List S95) (C : Chg) (A0 : Option Addr) (c0 : Nat) (A : Option Addr) (c : Nat) (hr : Kd.C k95 w A0 ns.length ns) (hc : ns.length ≤ c0) (h0 : C.f0 = 1) (p x : Nat) (hp : p < ns.length) (hAim : ∀ W, Kd.C k95 W A0 ns.length ns → Calls Tryz.prog 68 #[.agg #[.slice A0 ns.length c0], chv C A c] W (aimEnd W p x 0)) (hb : Bool) (hhb : spec_l5Holds.f (rd_T95 ns (p : Int)).f0 (rd_T95 ns (p : Int)).f1 (rd_T95 ns (p : Int)).f2 (rd_T95 ns (p : Int)).f3 (rd_T95 ns (p : Int)).f4 (rd_T95 ns (p : Int)).f5 = some hb) (hbf : hb = true) (hrc : Kd.C k95 w A C.f7.length C.f7) (hcc : C.f7.length ≤ c) (hnil : C.f7.length ≠ 0) (k3 : Nat) (r : Int) (hsf : spec_l3Skip.f k3 C.f7 0 = some r) (hr9 : r ≠ C.f7.length) :
  Calls Tryz.prog 41 #[.agg #[.slice A0 ns.length c0], chv C A c] w (DidEnd w [] zC 3) := by
 have HR := am hr
 have HC := am hc
 clear hr hc
 have HAim := am hAim
 clear hAim
 have HP := am hp
 have HHB := am hhb
 have d1 : (C.f0 != 1) = false := by rw [h0]; rfl
 have d2 : (C.f0 == 1) = true := by rw [h0]; rfl
 have d4 : decide (C.f0 < 1) = false := decide_eq_false (by omega)
 have d5 : decide (C.f0 > 6) = false := decide_eq_false (by omega)
 clear h0 hp hhb
 subst hbf
 have HCC := am (And.intro hrc hcc)
 clear hrc hcc
 have l0 : ((C.f7.length : Int) == 0) = false := by simp only [beq_eq_false_iff_ne, ne_eq]; omega
 have l1 : (C.f7.length == 0) = false := by simp only [beq_eq_false_iff_ne, ne_eq]; omega
 have HSF := am hsf
 have l2 : (r != (C.f7.length : Int)) = true := by simpa using hr9
 clear hnil hsf hr9
 go_enter Tryz.func41, Tryz.ntmps41
 go_wp2_with fail
 have HS0 := am (DB.four (w := w) (A0 := A0) (n := ns.length) (c0 := c0) (C := C) (A := A) (c := c))
 generalize World.alloc _ _ = w1 at HS0 ⊢
 refine (HAim.out w1 (Kd.C_below HR.out HS0.out.s.b)).mono ?_
 rintro e w2 ⟨rfl, hb3⟩
 have HS2 := am (HS0.out.below hb3)
 clear hb3 HS0
 obtain ⟨xt, x0, x1, x2, x3, x4, x5, x6, x7⟩ := HS2.out.s.cells
 obtain ⟨z0, z1, z2, z3, z4, z5, z6, z7⟩ := HS2.out.zc
 obtain ⟨f0, f1, f2, f3, f4, f5, f6, f7⟩ := HS2.out.zf
 obtain ⟨ad, A3, c3, rfl, hx0, hx1, hx2, hx3, hx4, hx5, hl3, hi3⟩ := at_T95 (Kd.C_below HR.out HS2.out.s.b) (p : Int) (by omega) (by have := HP.out; omega)
 have e3 := eq_true (show (0 : Int) ≤ (p : Int) from by omega)
 have e4 := eq_true (show (p : Int) < (ns.length : Int) from by have := HP.out; omega)
 simp only [Int.toNat_natCast] at hx0 hx1 hx2 hx3 hx4 hx5
 generalize rd_T95 ns (p : Int) = nd at HHB hx0 hx1 hx2 hx3 hx4 hx5 hl3 hi3
 have HH := am (show ∀ W, Below w2.heap.size w2 W → Calls Tryz.prog 69 #[.agg #[.int .i64 nd.f0, .int .i64 nd.f1, .string nd.f2, .slice A3 nd.f3.length c3, .string nd.f4, .int .i64 nd.f5]] W fun e w' => e = .returned (.bool true) ∧ Below W.heap.size W w' from fun W hW => spec_l5Holds.calls _ _ _ A3 c3 _ _ _ true W (Kd.C_below hi3 hW) hl3 HHB.out)
 have HSK := am (show ∀ W, Below w2.heap.size w2 W → Calls Tryz.prog 65 #[.slice A C.f7.length c, .int .i64 0] W fun e w' => e = .returned (.int .i64 r) ∧ Below W.heap.size W w' from fun W hW => (spec_l3Skip.calls k3 A c C.f7 0 r W (Kd.C_below HCC.out.1 (below_step HS2.out.s.b hW)) HCC.out.2 HSF.out).mono fun e w' h => ⟨h.1, h.2.below⟩)
 have HI3 := am (And.intro hi3 hl3)
 clear hi3 hl3
 go_wp2_with fail
 have HD2 := am (And.intro (Below.refl w2.heap.size w2) (Below.refl w2.heap.size w2).drew)
 have HST := am (show ∀ W, Below w2.heap.size w2 W → (W.cell? ⟨w.heap.size, 0, none⟩ = some (.slice (some ad) ns.length c0) ∧ W.cell? ⟨w.heap.size + 1, 7, none⟩ = some (.slice A C.f7.length c) ∧ W.cell? (ad.add (p * 6)) = some (.int .i64 nd.f0) ∧ W.cell? ⟨(ad.add (p * 6)).block, (ad.add (p * 6)).off + 1, none⟩ = some (.int .i64 nd.f1) ∧ W.cell? ⟨(ad.add (p * 6)).block, (ad.add (p * 6)).off + 2, none⟩ = some (.string nd.f2) ∧ W.cell? ⟨(ad.add (p * 6)).block, (ad.add (p * 6)).off + 3, none⟩ = some (.slice A3 nd.f3.length c3) ∧ W.cell? ⟨(ad.add (p * 6)).block, (ad.add (p * 6)).off + 4, none⟩ = some (.string nd.f4) ∧ W.cell? ⟨(ad.add (p * 6)).block, (ad.add (p * 6)).off + 5, none⟩ = some (.int .i64 nd.f5)) from fun W hW => ⟨pw_cell_below hW xt, pw_cell_below hW x7, pw_cell_below hW hx0, pw_cell_below hW hx1, pw_cell_below hW hx2, pw_cell_below hW hx3, pw_cell_below hW hx4, pw_cell_below hW hx5⟩)
 go_cut [84] (fun v84 wc => v84 = .bool true ∧ Aside0 (Below w2.heap.size w2 wc))
 case first =>
  clear z0 z1 z2 z3 z4 z5 z6 z7 f0 f1 f2 f3 f4 f5 f6 f7 x0 x1 x2 x3 x4 x5 x6
  first | (go_region_held3 (fun W => W.cell? ⟨w.heap.size, 0, none⟩ = some (.slice (some ad) ns.length c0) ∧ W.cell? ⟨w.heap.size + 1, 7, none⟩ = some (.slice A C.f7.length c) ∧ W.cell? (ad.add (p * 6)) = some (.int .i64 nd.f0) ∧ W.cell? ⟨(ad.add (p * 6)).block, (ad.add (p * 6)).off + 1, none⟩ = some (.int .i64 nd.f1) ∧ W.cell? ⟨(ad.add (p * 6)).block, (ad.add (p * 6)).off + 2, none⟩ = some (.string nd.f2) ∧ W.cell? ⟨(ad.add (p * 6)).block, (ad.add (p * 6)).off + 3, none⟩ = some (.slice A3 nd.f3.length c3) ∧ W.cell? ⟨(ad.add (p * 6)).block, (ad.add (p * 6)).off + 4, none⟩ = some (.string nd.f4) ∧ W.cell? ⟨(ad.add (p * 6)).block, (ad.add (p * 6)).off + 5, none⟩ = some (.int .i64 nd.f5)) (first | (with_reducible exact HST.out _ HD2.out.1) | (with_reducible exact HST.out _ HD2.out.2) | (with_reducible exact HST.out _ HB3.out) | (with_reducible exact HST.out _ HB4.out) | go_keep) (first | (go_at_call 69; refine (HH.out _ (by with_reducible first | exact HD2.out.1 | exact HD2.out.2)).mono ?_; rintro e w3 ⟨rfl, hb3⟩; have HB3 := am (show Below w2.heap.size w2 w3 from (by with_reducible first | exact hb3 | exact below_step HD2.out.2 hb3)); clear hb3) | (go_at_call 65; refine (HSK.out _ (by with_reducible exact HB3.out)).mono ?_; rintro e w4 ⟨rfl, hb4⟩; have HB4 := am (show Below w2.heap.size w2 w4 from (by with_reducible exact below_step HB3.out hb4)); clear hb4) | fail)) | fail
  all_goals
   go_wp2
   go_meet
   case rel => exact ⟨rfl, ⟨by with_reducible first | exact HB4.out | exact HB3.out⟩⟩
 case rest =>
  obtain ⟨rfl, HF⟩ := hcut
  clear xt x0 x1 x2 x3 x4 x5 x6 x7 hx0 hx1 hx2 hx3 hx4 hx5
  have HS3 := am (HS2.out.below HF.out)
  clear HF HH HST HD2
  obtain ⟨xt, x0, x1, x2, x3, x4, x5, x6, x7⟩ := HS3.out.s.cells
  obtain ⟨z0, z1, z2, z3, z4, z5, z6, z7⟩ := HS3.out.zc
  obtain ⟨f0, f1, f2, f3, f4, f5, f6, f7⟩ := HS3.out.zf
  go_wp2
  clear z0 z1 z2 z3 z4 z5 z6 z7 xt x0 x1 x2 x3 x4 x5 x6 x7 f0 f1 f2 f3 f4 f5 f6 f7
  generalize hw9 : World.setCell _ _ _ = w9
  obtain ⟨h1, h2, h3, h4⟩ := HS3.out.set (R := zC) (Ar := none) (cr := 0) hw9.symm
  obtain ⟨y0, y1, y2, y3, y4, y5, y6, y7⟩ := cells8t h1
  have hut := Tryz.underlying33
  have HZ := am h4
  clear h1 h2 h3 h4 hw9
  refine bodyPost_ret (v := .tuple #[.slice (some ⟨w.heap.size + 1 + 1 + 1, 0, none⟩) 0 0, chv zC none 0, .int .i64 3]) (by simp [results, Tryz.results41, go_sem, y0, y1, y2, y3, y4, y5, y6, y7, hut]) rfl (show DidEnd _ _ _ _ _ _ from ?_)
  exact ⟨_, 0, none, 0, rfl, none_reads _ _, Nat.le_refl _, none_reads _ _, Nat.le_refl _, HZ.out⟩
theorem did_ins (w : World) (ns : List S95) (C : Chg) (A0 : Option Addr) (c0 : Nat) (A : Option Addr) (c : Nat) (hr : Kd.C k95 w A0 ns.length ns) (hc : ns.length ≤ c0) (h0 : C.f0 = 1) (p x : Nat) (hp : p < ns.length) (hAim : ∀ W, Kd.C k95 W A0 ns.length ns → Calls Tryz.prog 68 #[.agg #[.slice A0 ns.length c0], chv C A c] W (aimEnd W p x 0)) (hb : Bool) (hhb : spec_l5Holds.f (rd_T95 ns (p : Int)).f0 (rd_T95 ns (p : Int)).f1 (rd_T95 ns (p : Int)).f2 (rd_T95 ns (p : Int)).f3 (rd_T95 ns (p : Int)).f4 (rd_T95 ns (p : Int)).f5 = some hb) (hbf : hb = true) (hrc : Kd.C k95 w A C.f7.length C.f7) (hcc : C.f7.length ≤ c) (hnil : C.f7.length ≠ 0) (k3 : Nat) (r : Int) (hsf : spec_l3Skip.f k3 C.f7 0 = some r) (hr9 : r = C.f7.length) (out : List S95) (hX : ∀ W, Below w.heap.size w W → Calls Tryz.prog 70 #[.slice A0 ns.length c0, .int .i64 p, .int .i64 x, .slice A C.f7.length c] W fun e w' => ∃ A1 c1, e = .returned (.slice A1 out.length c1) ∧ Kd.F k95 w' (fun k => W.heap.size ≤ k) A1 out.length out ∧ out.length ≤ c1 ∧ Below W.heap.size W w') :
  Calls Tryz.prog 41 #[.agg #[.slice A0 ns.length c0], chv C A c] w (DidEnd w out ⟨2, (rd_T95 C.f7 0).f0, 0, 0, ⟨#[]⟩, ⟨#[]⟩, 0, []⟩ 0) := by
 have HR := am hr
 have HC := am hc
 clear hr hc
 have HAim := am hAim
 clear hAim
 have HP := am hp
 have HHB := am hhb
 have d1 : (C.f0 != 1) = false := by rw [h0]; rfl
 have d2 : (C.f0 == 1) = true := by rw [h0]; rfl
 have d4 : decide (C.f0 < 1) = false := decide_eq_false (by omega)
 have d5 : decide (C.f0 > 6) = false := decide_eq_false (by omega)
 clear h0 hp hhb
 subst hbf
 have HCC := am (And.intro hrc hcc)
 clear hrc hcc
 have l0 : ((C.f7.length : Int) == 0) = false := by simp only [beq_eq_false_iff_ne, ne_eq]; omega
 have l1 : (C.f7.length == 0) = false := by simp only [beq_eq_false_iff_ne, ne_eq]; omega
 have HSF := am hsf
 have HNZ := am hnil
 have l2 : (r != (C.f7.length : Int)) = false := by simpa using hr9
 clear hnil hsf hr9
 have HX := am hX
 clear hX
 go_enter Tryz.func41, Tryz.ntmps41
 go_wp2_with fail
 have HS0 := am (DB.four (w := w) (A0 := A0) (n := ns.length) (c0 := c0) (C := C) (A := A) (c := c))
 generalize World.alloc _ _ = w1 at HS0 ⊢
 refine (HAim.out w1 (Kd.C_below HR.out HS0.out.s.b)).mono ?_
 rintro e w2 ⟨rfl, hb3⟩
 have HS2 := am (HS0.out.below hb3)
 clear hb3 HS0
 obtain ⟨xt, x0, x1, x2, x3, x4, x5, x6, x7⟩ := HS2.out.s.cells
 obtain ⟨z0, z1, z2, z3, z4, z5, z6, z7⟩ := HS2.out.zc
 obtain ⟨f0, f1, f2, f3, f4, f5, f6, f7⟩ := HS2.out.zf
 obtain ⟨ad, A3, c3, rfl, hx0, hx1, hx2, hx3, hx4, hx5, hl3, hi3⟩ := at_T95 (Kd.C_below HR.out HS2.out.s.b) (p : Int) (by omega) (by have := HP.out; omega)
 have e3 := eq_true (show (0 : Int) ≤ (p : Int) from by omega)
 have e4 := eq_true (show (p : Int) < (ns.length : Int) from by have := HP.out; omega)
 simp only [Int.toNat_natCast] at hx0 hx1 hx2 hx3 hx4 hx5
 generalize rd_T95 ns (p : Int) = nd at HHB hx0 hx1 hx2 hx3 hx4 hx5 hl3 hi3
 have HH := am (show ∀ W, Below w2.heap.size w2 W → Calls Tryz.prog 69 #[.agg #[.int .i64 nd.f0, .int .i64 nd.f1, .string nd.f2, .slice A3 nd.f3.length c3, .string nd.f4, .int .i64 nd.f5]] W fun e w' => e = .returned (.bool true) ∧ Below W.heap.size W w' from fun W hW => spec_l5Holds.calls _ _ _ A3 c3 _ _ _ true W (Kd.C_below hi3 hW) hl3 HHB.out)
 have HSK := am (show ∀ W, Below w2.heap.size w2 W → Calls Tryz.prog 65 #[.slice A C.f7.length c, .int .i64 0] W fun e w' => e = .returned (.int .i64 r) ∧ Below W.heap.size W w' from fun W hW => (spec_l3Skip.calls k3 A c C.f7 0 r W (Kd.C_below HCC.out.1 (below_step HS2.out.s.b hW)) HCC.out.2 HSF.out).mono fun e w' h => ⟨h.1, h.2.below⟩)
 have HI3 := am (And.intro hi3 hl3)
 clear hi3 hl3
 go_wp2_with fail
 have HD2 := am (And.intro (Below.refl w2.heap.size w2) (Below.refl w2.heap.size w2).drew)
 have HST := am (show ∀ W, Below w2.heap.size w2 W → (W.cell? ⟨w.heap.size, 0, none⟩ = some (.slice (some ad) ns.length c0) ∧ W.cell? ⟨w.heap.size + 1, 7, none⟩ = some (.slice A C.f7.length c) ∧ W.cell? (ad.add (p * 6)) = some (.int .i64 nd.f0) ∧ W.cell? ⟨(ad.add (p * 6)).block, (ad.add (p * 6)).off + 1, none⟩ = some (.int .i64 nd.f1) ∧ W.cell? ⟨(ad.add (p * 6)).block, (ad.add (p * 6)).off + 2, none⟩ = some (.string nd.f2) ∧ W.cell? ⟨(ad.add (p * 6)).block, (ad.add (p * 6)).off + 3, none⟩ = some (.slice A3 nd.f3.length c3) ∧ W.cell? ⟨(ad.add (p * 6)).block, (ad.add (p * 6)).off + 4, none⟩ = some (.string nd.f4) ∧ W.cell? ⟨(ad.add (p * 6)).block, (ad.add (p * 6)).off + 5, none⟩ = some (.int .i64 nd.f5)) from fun W hW => ⟨pw_cell_below hW xt, pw_cell_below hW x7, pw_cell_below hW hx0, pw_cell_below hW hx1, pw_cell_below hW hx2, pw_cell_below hW hx3, pw_cell_below hW hx4, pw_cell_below hW hx5⟩)
 go_cut [84] (fun v84 wc => v84 = .bool false ∧ Aside0 (Below w2.heap.size w2 wc))
 case first =>
  clear z0 z1 z2 z3 z4 z5 z6 z7 f0 f1 f2 f3 f4 f5 f6 f7 x0 x1 x2 x3 x4 x5 x6
  first | (go_region_held3 (fun W => W.cell? ⟨w.heap.size, 0, none⟩ = some (.slice (some ad) ns.length c0) ∧ W.cell? ⟨w.heap.size + 1, 7, none⟩ = some (.slice A C.f7.length c) ∧ W.cell? (ad.add (p * 6)) = some (.int .i64 nd.f0) ∧ W.cell? ⟨(ad.add (p * 6)).block, (ad.add (p * 6)).off + 1, none⟩ = some (.int .i64 nd.f1) ∧ W.cell? ⟨(ad.add (p * 6)).block, (ad.add (p * 6)).off + 2, none⟩ = some (.string nd.f2) ∧ W.cell? ⟨(ad.add (p * 6)).block, (ad.add (p * 6)).off + 3, none⟩ = some (.slice A3 nd.f3.length c3) ∧ W.cell? ⟨(ad.add (p * 6)).block, (ad.add (p * 6)).off + 4, none⟩ = some (.string nd.f4) ∧ W.cell? ⟨(ad.add (p * 6)).block, (ad.add (p * 6)).off + 5, none⟩ = some (.int .i64 nd.f5)) (first | (with_reducible exact HST.out _ HD2.out.1) | (with_reducible exact HST.out _ HD2.out.2) | (with_reducible exact HST.out _ HB3.out) | (with_reducible exact HST.out _ HB4.out) | go_keep) (first | (go_at_call 69; refine (HH.out _ (by with_reducible first | exact HD2.out.1 | exact HD2.out.2)).mono ?_; rintro e w3 ⟨rfl, hb3⟩; have HB3 := am (show Below w2.heap.size w2 w3 from (by with_reducible first | exact hb3 | exact below_step HD2.out.2 hb3)); clear hb3) | (go_at_call 65; refine (HSK.out _ (by with_reducible exact HB3.out)).mono ?_; rintro e w4 ⟨rfl, hb4⟩; have HB4 := am (show Below w2.heap.size w2 w4 from (by with_reducible exact below_step HB3.out hb4)); clear hb4) | fail)) | fail
  all_goals
   go_wp2
   go_meet
   case rel => exact ⟨rfl, ⟨by with_reducible first | exact HB4.out | exact HB3.out⟩⟩
 case rest =>
  obtain ⟨rfl, HF⟩ := hcut
  clear xt x0 x1 x2 x3 x4 x5 x6 x7 hx0 hx1 hx2 hx3 hx4 hx5
  have HS3 := am (HS2.out.below HF.out)
  clear HF HH HST HD2
  obtain ⟨xt, x0, x1, x2, x3, x4, x5, x6, x7⟩ := HS3.out.s.cells
  obtain ⟨z0, z1, z2, z3, z4, z5, z6, z7⟩ := HS3.out.zc
  obtain ⟨f0, f1, f2, f3, f4, f5, f6, f7⟩ := HS3.out.zf
  obtain ⟨ad2, A5, c5, rfl, hy0, hy1, hy2, hy3, hy4, hy5, hl5, hi5⟩ := at_T95 (Kd.C_below HCC.out.1 HS3.out.s.b) (0 : Int) (by omega) (by have := HNZ.out; omega)
  clear hy1 hy2 hy3 hy4 hy5 hl5 hi5
  have g3 := eq_true (show (0 : Int) ≤ 0 from Int.le_refl _)
  have g4 := eq_true (show (0 : Int) < (C.f7.length : Int) from by have := HNZ.out; omega)
  have g5 := eq_true (show 0 < C.f7.length from by have := HNZ.out; omega)
  have g6 : (C.f7 = []) = False := eq_false (fun h => HNZ.out (by rw [h]; rfl))
  have hy0 : wc.cell? ad2 = some (.int .i64 (rd_T95 C.f7 0).f0) := hy0
  have HD3 := am (And.intro (Below.refl wc.heap.size wc) (Below.refl wc.heap.size wc).drew)
  have HSS3 := am (show (wc.cell? ⟨w.heap.size, 0, none⟩ = some (.slice (some ad) ns.length c0) ∧ wc.cell? ⟨w.heap.size + 1, 7, none⟩ = some (.slice (some ad2) C.f7.length c) ∧ wc.cell? ad2 = some (.int .i64 (rd_T95 C.f7 0).f0)) from ⟨xt, x7, hy0⟩)
  have HST3 := am (show ∀ W, Below wc.heap.size wc W → (W.cell? ⟨w.heap.size, 0, none⟩ = some (.slice (some ad) ns.length c0) ∧ W.cell? ⟨w.heap.size + 1, 7, none⟩ = some (.slice (some ad2) C.f7.length c) ∧ W.cell? ad2 = some (.int .i64 (rd_T95 C.f7 0).f0)) from fun W hW => ⟨pw_cell_below hW HSS3.out.1, pw_cell_below hW HSS3.out.2.1, pw_cell_below hW HSS3.out.2.2⟩)
  have HNE := am (show ad2.block ≠ w.heap.size + 1 + 1 from by
   obtain ⟨ad9, A9, c9, e9, q0, _⟩ := at_T95 HCC.out.1 (0 : Int) (by omega) (by have := HNZ.out; omega)
   injection e9 with e9
   subst e9
   have := World.block_lt_of_cell? w _ (show w.cell? ad2 = _ from q0)
   omega)
  go_wp2_with fail
  go_region_held3 (fun W => W.cell? ⟨w.heap.size, 0, none⟩ = some (.slice (some ad) ns.length c0) ∧ W.cell? ⟨w.heap.size + 1, 7, none⟩ = some (.slice (some ad2) C.f7.length c) ∧ W.cell? ad2 = some (.int .i64 (rd_T95 C.f7 0).f0)) (first | (with_reducible exact HSS3.out) | (with_reducible exact HST3.out _ HD3.out.2) | (with_reducible exact HST3.out _ HB5.out) | (with_reducible exact HSV.out) | go_keep) (first | (go_at_call 70; refine (HX.out _ (below_step HS3.out.s.b (by with_reducible first | exact HD3.out.1 | exact HD3.out.2))).mono ?_; rintro e w5 ⟨A1, c1, rfl, hf5, hc5, hb5⟩; have HB5 := am (show Below wc.heap.size wc w5 from (by with_reducible first | exact hb5 | exact below_step HD3.out.2 hb5)); have HF5 := am (And.intro (Kd.F_mono hf5 (ok' := fun k => wc.heap.size ≤ k) (fun k hk => by have := HD3.out.2.size; first | exact hk | exact Nat.le_trans this hk)) hc5); have HS5 := am (HS3.out.below HB5.out); have HSV := am (show (((((((((w5.setCell ⟨w.heap.size + 1 + 1, 0, none⟩ (.int .i64 2)).setCell ⟨w.heap.size + 1 + 1, 1, none⟩ (.int .i64 (rd_T95 C.f7 0).f0)).setCell ⟨w.heap.size + 1 + 1, 2, none⟩ (.int .i64 0)).setCell ⟨w.heap.size + 1 + 1, 3, none⟩ (.int .i64 0)).setCell ⟨w.heap.size + 1 + 1, 4, none⟩ (.string ⟨#[]⟩)).setCell ⟨w.heap.size + 1 + 1, 5, none⟩ (.string ⟨#[]⟩)).setCell ⟨w.heap.size + 1 + 1, 6, none⟩ (.int .i64 0)).setCell ⟨w.heap.size + 1 + 1, 7, none⟩ (.slice none 0 0)).cell? ⟨w.heap.size, 0, none⟩ = some (.slice (some ad) ns.length c0) ∧ ((((((((w5.setCell ⟨w.heap.size + 1 + 1, 0, none⟩ (.int .i64 2)).setCell ⟨w.heap.size + 1 + 1, 1, none⟩ (.int .i64 (rd_T95 C.f7 0).f0)).setCell ⟨w.heap.size + 1 + 1, 2, none⟩ (.int .i64 0)).setCell ⟨w.heap.size + 1 + 1, 3, none⟩ (.int .i64 0)).setCell ⟨w.heap.size + 1 + 1, 4, none⟩ (.string ⟨#[]⟩)).setCell ⟨w.heap.size + 1 + 1, 5, none⟩ (.string ⟨#[]⟩)).setCell ⟨w.heap.size + 1 + 1, 6, none⟩ (.int .i64 0)).setCell ⟨w.heap.size + 1 + 1, 7, none⟩ (.slice none 0 0)).cell? ⟨w.heap.size + 1, 7, none⟩ = some (.slice (some ad2) C.f7.length c) ∧ ((((((((w5.setCell ⟨w.heap.size + 1 + 1, 0, none⟩ (.int .i64 2)).setCell ⟨w.heap.size + 1 + 1, 1, none⟩ (.int .i64 (rd_T95 C.f7 0).f0)).setCell ⟨w.heap.size + 1 + 1, 2, none⟩ (.int .i64 0)).setCell ⟨w.heap.size + 1 + 1, 3, none⟩ (.int .i64 0)).setCell ⟨w.heap.size + 1 + 1, 4, none⟩ (.string ⟨#[]⟩)).setCell ⟨w.heap.size + 1 + 1, 5, none⟩ (.string ⟨#[]⟩)).setCell ⟨w.heap.size + 1 + 1, 6, none⟩ (.int .i64 0)).setCell ⟨w.heap.size + 1 + 1, 7, none⟩ (.slice none 0 0)).cell? ad2 = some (.int .i64 (rd_T95 C.f7 0).f0)) from ⟨(cell_sets8 (show w.heap.size ≠ w.heap.size + 1 + 1 from by omega) _ _ _ _ _ _ _ _).trans (HST3.out _ HB5.out).1, (cell_sets8 (show w.heap.size + 1 ≠ w.heap.size + 1 + 1 from by omega) _ _ _ _ _ _ _ _).trans (HST3.out _ HB5.out).2.1, (cell_sets8 HNE.out _ _ _ _ _ _ _ _).trans (HST3.out _ HB5.out).2.2⟩); clear hf5 hc5 hb5 z0 z1 z2 z3 z4 z5 z6 z7 f0 f1 f2 f3 f4 f5 f6 f7; obtain ⟨z0, z1, z2, z3, z4, z5, z6, z7⟩ := HS5.out.zc; obtain ⟨f0, f1, f2, f3, f4, f5, f6, f7⟩ := HS5.out.zf) | fail)
  all_goals
   go_wp2
   clear z0 z1 z2 z3 z4 z5 z6 z7 xt x0 x1 x2 x3 x4 x5 x6 x7 f0 f1 f2 f3 f4 f5 f6 f7 HSV
   generalize hw9 : World.setCell _ _ _ = w9
   obtain ⟨h1, h2, h3, h4⟩ := HS5.out.set (R := ⟨2, (rd_T95 C.f7 0).f0, 0, 0, ⟨#[]⟩, ⟨#[]⟩, 0, []⟩) (Ar := none) (cr := 0) hw9.symm
   obtain ⟨y0, y1, y2, y3, y4, y5, y6, y7⟩ := cells8t h1
   have hut := Tryz.underlying33
   have HZ := am (And.intro h2 h4)
   clear h1 h2 h3 h4 hw9
   refine bodyPost_ret (v := .tuple #[.slice A1 out.length c1, chv ⟨2, (rd_T95 C.f7 0).f0, 0, 0, ⟨#[]⟩, ⟨#[]⟩, 0, []⟩ none 0, .int .i64 0]) (by simp [results, Tryz.results41, go_sem, y0, y1, y2, y3, y4, y5, y6, y7, hut]) rfl (show DidEnd _ _ _ _ _ _ from ?_)
   have hz3 := blk_lt HS3.out.n
   exact ⟨A1, c1, none, 0, rfl, Kd.F_mono (Kd.F_step HF5.out.1 (fun k hk _ => HZ.out.1 k (by omega))) (fun k hk => by omega), HF5.out.2, none_reads _ _, Nat.le_refl _, HZ.out.2⟩
end Go.Proofs.YthjgohbkpjhkeaaGreatDoor.Impl
set_option maxHeartbeats 4000000
set_option maxRecDepth 100000
namespace Go.Proofs.YthjgohbkpjhkeaaGreatDoor.Impl
open Go.RowKit Go.Proofs.YthjgohbkpjhkeaaGreatDoorW.PrintWords Go.Proofs.YthjgohbkpjhkeaaGreatDoorW.PrintLast Go.Proofs.YthjgohbkpjhkeaaGreatDoorW.PrintMore Go.Proofs.YthjgohbkpjhkeaaGreatDoor.PFnExactDo Go.Proofs.YthjgohbkpjhkeaaGreatDoor.MapLib Go.Proofs.YthjgohbkpjhkeaaGreatDoor.FireSpec Go.Proofs.YthjgohbkpjhkeaaGreatDoor.Tr
theorem did_text (w : World) (ns : List S95) (C : Chg) (A0 : Option Addr) (c0 : Nat) (A : Option Addr) (c : Nat) (hr : Kd.C k95 w A0 ns.length ns) (hc : ns.length ≤ c0) (h0 : C.f0 = 6) (k1 j : Nat) (h1 : spec_l4At.f k1 ns C.f1 = some (j : Int)) (hj : j < ns.length) (hj0 : j ≠ 0) (hk : (rd_T95 ns (j : Int)).f1 = 3) (hX : ∀ W, Kd.C k95 W A0 ns.length ns → Calls Tryz.prog 51 #[.slice A0 ns.length c0] W fun e w' => ∃ g n c, e = .returned (.slice (some ⟨g, 0, none⟩) n c) ∧ Kd.N k95 95 w' W.heap.size (fun k => W.heap.size ≤ k) (.slice (some ⟨g, 0, none⟩) n c) ns ∧ n = ns.length ∧ W.heap.size ≤ g ∧ Below W.heap.size W w') :
  Calls Tryz.prog 41 #[.agg #[.slice A0 ns.length c0], chv C A c] w (DidEnd w (ns.set j (withText (ns.getD j z95) C.f5)) ⟨6, C.f1, 0, 0, ⟨#[]⟩, (ns.getD j z95).f4, 0, []⟩ 0) := by
 have HR := am hr
 have HC := am hc
 clear hr hc
 have HK := am (And.intro h1 hj)
 clear h1 hj
 have HX := am hX
 clear hX
 have d1 : (C.f0 != 1) = true := by simp only [bne_iff_ne, ne_eq]; omega
 have d2 : (C.f0 == 1) = false := by simp only [beq_eq_false_iff_ne, ne_eq]; omega
 have d4 : decide (C.f0 < 1) = false := decide_eq_false (by omega)
 have d5 : decide (C.f0 > 6) = false := decide_eq_false (by omega)
 have e0 : ((j : Int) == 0) = false := by simp only [beq_eq_false_iff_ne, ne_eq]; omega
 have s3 : (C.f0 == 3) = false := by rw [h0]; rfl
 have s2 : (C.f0 == 2) = false := by rw [h0]; rfl
 have s6 : (C.f0 == 6) = true := by rw [h0]; rfl
 have e6 : ((rd_T95 ns (j : Int)).f1 != 3) = false := by simpa using hk
 clear h0 hj0 hk
 go_enter Tryz.func41, Tryz.ntmps41
 go_wp2_with fail
 have HS0 := am (DB.four (w := w) (A0 := A0) (n := ns.length) (c0 := c0) (C := C) (A := A) (c := c))
 generalize World.alloc _ _ = w1 at HS0 ⊢
 refine (spec_l4At.calls k1 A0 c0 ns C.f1 _ w1 (Kd.C_below HR.out HS0.out.s.b) HC.out HK.out.1).mono ?_
 rintro e w2 ⟨rfl, hb2⟩
 have HS2 := am (HS0.out.below hb2)
 clear hb2 HS0
 obtain ⟨xt, x0, x1, x2, x3, x4, x5, x6, x7⟩ := HS2.out.s.cells
 obtain ⟨z0, z1, z2, z3, z4, z5, z6, z7⟩ := HS2.out.zc
 obtain ⟨f0, f1, f2, f3, f4, f5, f6, f7⟩ := HS2.out.zf
 have e1 : decide ((j : Int) < 0) = false := decide_eq_false (by omega)
 obtain ⟨ad, A3, c3, rfl, hx0, hx1, hx2, hx3, hx4, hx5, hl3, hi3⟩ := at_T95 (Kd.C_below HR.out HS2.out.s.b) (j : Int) (by omega) (by have := HK.out.2; omega)
 have e3 := eq_true (show (0 : Int) ≤ (j : Int) from by omega)
 have e4 := eq_true (show (j : Int) < (ns.length : Int) from by have := HK.out.2; omega)
 simp only [Int.toNat_natCast] at hx0 hx1 hx2 hx3 hx4 hx5
 go_wp2_with fail
 refine (HX.out w2 (Kd.C_below HR.out HS2.out.s.b)).mono ?_
 rintro e w3 ⟨g, n, c9, rfl, hN3, hn3, hg3, hb3⟩
 have HS3 := am (HS2.out.below hb3)
 have hz2 := blk_lt HS2.out.n
 obtain ⟨A9, c8, hcc, hff, _, _⟩ := node_cells hN3 HK.out.2
 have hu4 := hcc 4 _ rfl
 have hf4 := hff 4
 subst hn3
 have HN3 := am (And.intro hN3 (And.intro hg3 (And.intro hz2 hb3)))
 clear hb3 hN3 hg3 hz2 hcc hff
 clear xt x0 x1 x2 x3 x4 x5 x6 x7 z0 z1 z2 z3 z4 z5 z6 z7 f0 f1 f2 f3 f4 f5 f6 f7
 obtain ⟨xt, x0, x1, x2, x3, x4, x5, x6, x7⟩ := HS3.out.s.cells
 obtain ⟨z0, z1, z2, z3, z4, z5, z6, z7⟩ := HS3.out.zc
 obtain ⟨f0, f1, f2, f3, f4, f5, f6, f7⟩ := HS3.out.zf
 go_upto_region 30 with (fail)
 generalize hw4 : World.setCell w3 _ _ = w4
 have h4 := store_text HN3.out.1 HK.out.2 C.f5 hw4.symm
 have H4 := am (show DB w w4 (some ad) ns.length c0 C A c ∧ Kd.N k95 95 w4 w2.heap.size (fun k => w2.heap.size ≤ k) (.slice (some ⟨g, 0, none⟩) ns.length c9) (ns.set j (withText (ns.getD j z95) C.f5)) from by
  have hz := HN3.out.2
  have hh := fun k (h : k < w3.heap.size) (hk : k ≠ g) => h4.2.block k h (fun e => hk (by injection e))
  have hz3 := blk_lt HS3.out.n
  refine ⟨⟨⟨?_, (hh _ (by omega) (by omega)).trans HS3.out.s.t, (hh _ (by omega) (by omega)).trans HS3.out.s.c⟩, (hh _ (by omega) (by omega)).trans HS3.out.z, (hh _ (by omega) (by omega)).trans HS3.out.n⟩, h4.1⟩
  rw [← hw4]
  exact below_set HS3.out.s.b (show w.heap.size ≤ g from by omega))
 clear h4 hw4 hu4 hf4 hx0 hx1 hx2 hx3 hx4 hx5 hl3 hi3
 clear xt x0 x1 x2 x3 x4 x5 x6 x7 z0 z1 z2 z3 z4 z5 z6 z7 f0 f1 f2 f3 f4 f5 f6 f7
 obtain ⟨xt, x0, x1, x2, x3, x4, x5, x6, x7⟩ := H4.out.1.s.cells
 obtain ⟨z0, z1, z2, z3, z4, z5, z6, z7⟩ := H4.out.1.zc
 obtain ⟨f0, f1, f2, f3, f4, f5, f6, f7⟩ := H4.out.1.zf
 have HRR := HR.out
 obtain ⟨ad', A4, c4, ead, hx0, hx1, hx2, hx3, hx4, hx5, hl3, hi3⟩ := at_T95 (Kd.C_below HR.out H4.out.1.s.b) (j : Int) (by omega) (by have := HK.out.2; omega)
 cases ead
 simp only [Int.toNat_natCast] at hx0 hx1 hx2 hx3 hx4 hx5
 clear HRR hx0 hx1 hx2 hx3 hx5 hl3 hi3
 go_region
 all_goals
  clear z0 z1 z2 z3 z4 z5 z6 z7 xt x0 x1 x2 x3 x4 x5 x6 x7 f0 f1 f2 f3 f4 f5 f6 f7 hx4
  go_wp2
  generalize hw9 : World.setCell _ _ _ = w9
  obtain ⟨h1, h2, h3, h4⟩ := H4.out.1.set (R := ⟨6, C.f1, 0, 0, ⟨#[]⟩, (ns.getD j z95).f4, 0, []⟩) (Ar := none) (cr := 0) hw9.symm
  obtain ⟨y0, y1, y2, y3, y4, y5, y6, y7⟩ := cells8t h1
  have hut := Tryz.underlying33
  have HZ := am (And.intro h2 h4)
  clear h1 h2 h3 h4 hw9
  refine bodyPost_ret (v := .tuple #[.slice (some ⟨g, 0, none⟩) ns.length c9, chv ⟨6, C.f1, 0, 0, ⟨#[]⟩, (ns.getD j z95).f4, 0, []⟩ none 0, .int .i64 0]) (by simp [results, Tryz.results41, go_sem, y0, y1, y2, y3, y4, y5, y6, y7, hut]) rfl (show DidEnd _ _ _ _ _ _ from ?_)
  have hF := Kd.N_F H4.out.2
  have hz := HN3.out.2.2.1
  have hsz : w2.heap.size ≤ w3.heap.size := HN3.out.2.2.2.size
  have hl : (ns.set j (withText (ns.getD j z95) C.f5)).length = ns.length := by simp
  have hr := Kd.N_reads' H4.out.2
  refine ⟨some ⟨g, 0, none⟩, c9, none, 0, by rw [hl], ?_, by rw [hl]; exact hr.2.1, none_reads _ _, Nat.le_refl _, below_drew1 HZ.out.2⟩
  rw [hl]
  exact Kd.F_mono (Kd.F_drew <| Kd.F_step hF (fun k hk _ => HZ.out.1 k (by omega))) (fun k hk => by omega)
structure AB (w W : World) (A0 : Option Addr) (n c0 : Nat) (C : Chg) (A : Option Addr) (c : Nat) : Prop where
 s : SB w W A0 n c0 C A c
 z : W.heap[w.heap.size + 2]? = some (mbox8 zC none 0 33)
theorem AB.three {w : World} {A0 : Option Addr} {n c0 : Nat} {C : Chg} {A : Option Addr} {c : Nat} : AB w (((w.alloc (.cells #[.slice A0 n c0] 31)).alloc (mbox8 C A c 33)).alloc (mbox8 zC none 0 33)) A0 n c0 C A c := by
 have h := (SB.two (w := w) (A0 := A0) (n := n) (c0 := c0) (C := C) (A := A) (c := c))
 have hs : ((w.alloc (.cells #[.slice A0 n c0] 31)).alloc (mbox8 C A c 33)).heap.size = w.heap.size + 2 := by simp
 generalize ((w.alloc (.cells #[.slice A0 n c0] 31)).alloc (mbox8 C A c 33)) = w2 at h hs ⊢
 have hb1 := (Below.refl w2.heap.size w2).alloc (Nat.le_refl _) (mbox8 zC none 0 33)
 have hz := blk_newest w2 (mbox8 zC none 0 33)
 rw [hs] at hz
 exact ⟨h.below hb1, hz⟩
section
variable {w W W' : World} {A0 : Option Addr} {n c0 : Nat} {C : Chg} {A : Option Addr} {c : Nat}
theorem AB.below (h : AB w W A0 n c0 C A c) (hb : Below W.heap.size W W') : AB w W' A0 n c0 C A c := ⟨h.s.below hb, blk_below h.z hb⟩
theorem AB.zc (h : AB w W A0 n c0 C A c) : W.cell? ⟨w.heap.size + 1 + 1, 0, none⟩ = some (.int .i64 0) ∧ W.cell? ⟨w.heap.size + 1 + 1, 1, none⟩ = some (.int .i64 0) ∧ W.cell? ⟨w.heap.size + 1 + 1, 2, none⟩ = some (.int .i64 0) ∧ W.cell? ⟨w.heap.size + 1 + 1, 3, none⟩ = some (.int .i64 0) ∧ W.cell? ⟨w.heap.size + 1 + 1, 4, none⟩ = some (.string ⟨#[]⟩) ∧ W.cell? ⟨w.heap.size + 1 + 1, 5, none⟩ = some (.string ⟨#[]⟩) ∧ W.cell? ⟨w.heap.size + 1 + 1, 6, none⟩ = some (.int .i64 0) ∧ W.cell? ⟨w.heap.size + 1 + 1, 7, none⟩ = some (.slice none 0 0) := cells8t (C := zC) h.z
theorem AB.zf (h : AB w W A0 n c0 C A c) : W.frozen? ⟨w.heap.size + 1 + 1, 0, none⟩ = false ∧ W.frozen? ⟨w.heap.size + 1 + 1, 1, none⟩ = false ∧ W.frozen? ⟨w.heap.size + 1 + 1, 2, none⟩ = false ∧ W.frozen? ⟨w.heap.size + 1 + 1, 3, none⟩ = false ∧ W.frozen? ⟨w.heap.size + 1 + 1, 4, none⟩ = false ∧ W.frozen? ⟨w.heap.size + 1 + 1, 5, none⟩ = false ∧ W.frozen? ⟨w.heap.size + 1 + 1, 6, none⟩ = false ∧ W.frozen? ⟨w.heap.size + 1 + 1, 7, none⟩ = false :=
 ⟨blk_frozen h.z 0, blk_frozen h.z 1, blk_frozen h.z 2, blk_frozen h.z 3, blk_frozen h.z 4, blk_frozen h.z 5, blk_frozen h.z 6, blk_frozen h.z 7⟩
theorem AB.set {R : Chg} {Ar : Option Addr} {cr : Nat} (h : AB w W A0 n c0 C A c) (hw : W' = ((((((((W.setCell ⟨w.heap.size + 1 + 1, 0, none⟩ (.int .i64 R.f0)).setCell ⟨w.heap.size + 1 + 1, 1, none⟩ (.int .i64 R.f1)).setCell ⟨w.heap.size + 1 + 1, 2, none⟩ (.int .i64 R.f2)).setCell ⟨w.heap.size + 1 + 1, 3, none⟩ (.int .i64 R.f3)).setCell ⟨w.heap.size + 1 + 1, 4, none⟩ (.string R.f4)).setCell ⟨w.heap.size + 1 + 1, 5, none⟩ (.string R.f5)).setCell ⟨w.heap.size + 1 + 1, 6, none⟩ (.int .i64 R.f6)).setCell ⟨w.heap.size + 1 + 1, 7, none⟩ (.slice Ar R.f7.length cr))) :
  W'.heap[w.heap.size + 2]? = some (mbox8 R Ar cr 33) ∧ (∀ k, k ≠ w.heap.size + 2 → W'.heap[k]? = W.heap[k]?) ∧ W'.heap.size = W.heap.size ∧ Below w.heap.size w W' := by
 obtain ⟨h1, h2, h3, h4⟩ := set8 (C := R) (A := Ar) (c := cr) h.z hw
 exact ⟨h1, h2, h3, h4 _ _ h.s.b (by omega)⟩
end
end Go.Proofs.YthjgohbkpjhkeaaGreatDoor.Impl
set_option maxHeartbeats 8000000
set_option maxRecDepth 100000
namespace Go.Proofs.YthjgohbkpjhkeaaGreatDoor.Impl
open Go.RowKit Go.Proofs.YthjgohbkpjhkeaaGreatDoorW.PrintWords Go.Proofs.YthjgohbkpjhkeaaGreatDoorW.PrintLast Go.Proofs.YthjgohbkpjhkeaaGreatDoorW.PrintMore Go.Proofs.YthjgohbkpjhkeaaGreatDoor.PFnExactDo Go.Proofs.YthjgohbkpjhkeaaGreatDoor.MapLib Go.Proofs.YthjgohbkpjhkeaaGreatDoor.FireSpec Go.Proofs.YthjgohbkpjhkeaaGreatDoor.Tr
theorem nodeOk_low (n0 n1 : Int) (s t : ByteArray) (n5 : Int) (A : Option Addr) (n c : Nat) (first : Bool) (w : World) (h : (decide (n0 < 0) || decide (n0 > 1000000) || ((n1 == 1) != first)) = true) :
  Calls Tryz.prog 66 #[.agg #[.int .i64 n0, .int .i64 n1, .string s, .slice A n c, .string t, .int .i64 n5], .bool first] w (BoolAt w false) := by
 have hut := Tryz.underlying95
 have HB := am ((Below.refl w.heap.size w).alloc (Nat.le_refl _) (Obj.cells #[.int .i64 n0, .int .i64 n1, .string s, .slice A n c, .string t, .int .i64 n5] 95))
 cases u1 : decide (n0 < 0)
 cases u2 : decide (n0 > 1000000)
 cases e1 : (n1 == 1) <;> cases first
 all_goals first | (simp [*] at h; done) | skip
 all_goals
  try have u4 : decide (1000000 < n0) = _ := u2
  clear h
  go_enter Tryz.func66, Tryz.ntmps66
  go_wp2
  go_ret
  exact ⟨rfl, HB.out⟩
theorem nodeOk_flat (n0 n1 : Int) (s t : ByteArray) (n5 : Int) (A : Option Addr) (n c : Nat) (w : World) (h0 : decide (n0 < 0) = false) (h1 : decide (n0 > 1000000) = false) (h2 : n1 ≠ 2) (b2 b4 l0 k0 : Bool) (c2 : (s.toList == []) = b2) (c4 : (t.toList == []) = b4) (cl : (n == 0) = l0) (ck : (n5 == 0) = k0) :
  Calls Tryz.prog 66 #[.agg #[.int .i64 n0, .int .i64 n1, .string s, .slice A n c, .string t, .int .i64 n5], .bool (n1 == 1)] w (BoolAt w (flatN n1 b2 b4 l0 k0)) := by
 have hut := Tryz.underlying95
 have HB := am ((Below.refl w.heap.size w).alloc (Nat.le_refl _) (Obj.cells #[.int .i64 n0, .int .i64 n1, .string s, .slice A n c, .string t, .int .i64 n5] 95))
 have u4 : decide (1000000 < n0) = false := h1
 have cd : decide (n = 0) = l0 := cl
 have ci : ((n : Int) == 0) = l0 := by rw [← cl, Bool.eq_iff_iff, beq_iff_eq, beq_iff_eq]; omega
 have e2 : (n1 == 2) = false := by simpa using h2
 by_cases k1 : n1 = 1
 ·subst k1
  clear h2
  cases b2 <;> cases b4 <;> cases l0
  all_goals
   go_enter Tryz.func66, Tryz.ntmps66
   go_wp2
   go_ret
   exact ⟨rfl, HB.out⟩
 have e1 : (n1 == 1) = false := by simpa using k1
 by_cases k3 : n1 = 3
 ·subst k3
  clear h2
  cases b2 <;> cases b4 <;> cases l0 <;> cases k0
  all_goals
   go_enter Tryz.func66, Tryz.ntmps66
   go_wp2
   go_ret
   exact ⟨rfl, HB.out⟩
 have e3 : (n1 == 3) = false := by simpa using k3
 by_cases k4 : n1 = 4
 ·subst k4
  clear h2
  cases b2 <;> cases l0 <;> cases k0
  all_goals
   go_enter Tryz.func66, Tryz.ntmps66
   go_wp2
   go_ret
   exact ⟨rfl, HB.out⟩
 have e4 : (n1 == 4) = false := by simpa using k4
 by_cases k5 : n1 = 5
 ·subst k5
  clear h2
  cases b4 <;> cases l0 <;> cases k0
  all_goals
   go_enter Tryz.func66, Tryz.ntmps66
   go_wp2
   go_ret
   exact ⟨rfl, HB.out⟩
 have e5 : (n1 == 5) = false := by simpa using k5
 have HF := am (show flatN n1 b2 b4 l0 k0 = false from by unfold flatN; rw [if_neg k1, if_neg k3, if_neg k4, if_neg k5])
 rw [HF.out, e1]
 clear h2 k1 k3 k4 k5
 go_enter Tryz.func66, Tryz.ntmps66
 go_wp2
 go_ret
 exact ⟨rfl, HB.out⟩
theorem cut_head {A : Option Addr} {c i : Nat} {xs : List S149} (hi : i ≤ xs.length) (hc : xs.length ≤ c) : ∀ W, (Instr.slice 93 (.slice A xs.length c) none (some (.int .i64 (i : Int))) none).run Tryz.prog W = .ok (.slice A i c) W := by
 obtain ⟨i0, hi0, _, hsz, _⟩ := info_parts info149
 have h1 := cut_to (P := Tryz.prog) 93 149 .i64 Tryz.underlying93 hi0 A xs.length c (i : Int) (by omega) (by omega) hc
 simpa only [Int.toNat_natCast] using h1
def aok (seen : List S149) : List S149 → Bool
 | [] => true
 | a :: r => !((a.f0.toList == []) || seen.any (fun x => x.f0.toList == a.f0.toList)) && aok (seen ++ [a]) r
theorem l2Has_calls (xs : List S149) (s : ByteArray) (A : Option Addr) (c : Nat) (w : World) (hr : Kd.C k149 w A xs.length xs) (hc : xs.length ≤ c) (b : Bool) (hb : xs.any (fun x => x.f0.toList == s.toList) = b) :
  Calls Tryz.prog 96 #[.slice A xs.length c, .string s] w (BoolAt w b) := by
 have HX := am hr
 have hn := hr.2.1
 clear hr
 go_enter Tryz.func96, Tryz.ntmps96
 go_wp2
 go_loopg [5] (xs.length + 1) (fun kq v5 wr => ∃ i : Nat, v5 = .int .i64 i ∧ Aside0 (i + kq = xs.length + 1 ∧ i ≤ xs.length ∧ (xs.drop i).any (fun x => x.f0.toList == s.toList) = b) ∧ wr = w)
 case atStart => exact ⟨0, rfl, ⟨by omega, by omega, hb⟩, rfl⟩
 case round =>
  obtain ⟨i, rfl, HI, rfl⟩ := hrel
  have hd : decide ((i : Int) < (xs.length : Int)) = decide (i < xs.length) := by simp
  by_cases hlt : i < xs.length
  ·have hd2 : decide (i < xs.length) = true := decide_eq_true hlt
   rw [hd2] at hd
   have hib : (i : Int) < 9223372036854775807 := by omega
   have e3 := eq_true (show (0 : Int) ≤ (i : Int) from by omega)
   have e4 := eq_true (show (i : Int) < xs.length from by omega)
   obtain ⟨ad, hA, hx0, hx1⟩ := at_T149 HX.out (i : Int) (by omega) (by omega)
   subst hA
   have hdr := HI.out.2.2
   rw [List.drop_eq_getElem_cons hlt, List.any_cons] at hdr
   rw [show rd_T149 xs (i : Int) = xs[i] from by simp [rd_T149, hlt]] at hx0 hx1
   simp only [Int.toNat_natCast] at hx0 hx1
   generalize xs[i] = x at hx0 hx1 hdr
   have HI2 := am hlt
   clear hlt hn hb
   cases q : (x.f0.toList == s.toList)
   ·have HR := am (show (xs.drop (i + 1)).any (fun x => x.f0.toList == s.toList) = b from by rw [q] at hdr; exact hdr)
    clear hdr
    go_wp2
    have hii : (i : Int) + 1 = ((i + 1 : Nat) : Int) := by omega
    go_roundg (gk - 1)
    case measure => have := HI.out; omega
    case rel => exact ⟨i + 1, by rw [hii], ⟨by have := HI.out; omega, HI2.out, HR.out⟩, rfl⟩
   ·have HR := am (show b = true from by rw [q] at hdr; exact hdr.symm)
    clear hdr
    go_wp2
    go_ret
    rw [HR.out]
    exact ⟨rfl, Below.refl _ _⟩
  ·have hd2 : decide (i < xs.length) = false := decide_eq_false hlt
   rw [hd2] at hd
   have HE := am (show b = false from by have h := HI.out.2.2; rw [List.drop_eq_nil_of_le (by omega)] at h; exact h.symm)
   clear hlt hb
   go_wp2
   go_ret
   rw [HE.out]
   exact ⟨rfl, Below.refl _ _⟩
theorem nodeOk_elem (n0 : Int) (s t : ByteArray) (n5 : Int) (A : Option Addr) (c : Nat) (xs : List S149) (w : World) (h0 : decide (n0 < 0) = false) (h1 : decide (n0 > 1000000) = false) (hr : Kd.C k149 w A xs.length xs) (hc : xs.length ≤ c) (b2 b4 : Bool) (c2 : (s.toList == []) = b2) (c4 : (t.toList == []) = b4) :
  Calls Tryz.prog 66 #[.agg #[.int .i64 n0, .int .i64 2, .string s, .slice A xs.length c, .string t, .int .i64 n5], .bool false] w (BoolAt w (aok [] xs && (!b2 && b4))) := by
 have hut := Tryz.underlying95
 have HB := am ((Below.refl w.heap.size w).alloc (Nat.le_refl _) (Obj.cells #[.int .i64 n0, .int .i64 2, .string s, .slice A xs.length c, .string t, .int .i64 n5] 95))
 have HW := am (blk_newest w (Obj.cells #[.int .i64 n0, .int .i64 2, .string s, .slice A xs.length c, .string t, .int .i64 n5] 95))
 have HC := am hc
 have HX := am (Kd.C_below hr HB.out)
 have hn := hr.2.1
 clear hr
 have u4 : decide (1000000 < n0) = false := h1
 go_enter Tryz.func66, Tryz.ntmps66
 go_wp2
 generalize World.alloc w _ = w1 at HB HW HX ⊢
 go_loopg [5] (xs.length + 1) (fun kq v5 wr => ∃ i : Nat, v5 = .int .i64 i ∧ Aside0 (i + kq = xs.length + 1 ∧ i ≤ xs.length ∧ aok (xs.take i) (xs.drop i) = aok [] xs) ∧ Aside0 (Below w1.heap.size w1 wr))
 case atStart => exact ⟨0, rfl, ⟨by omega, by omega, rfl⟩, ⟨Below.refl _ _⟩⟩
 case round =>
  obtain ⟨i, rfl, HI, HB1⟩ := hrel
  have hd : decide ((i : Int) < (xs.length : Int)) = decide (i < xs.length) := by simp
  have hW := am (fun W (h : Below wr.heap.size wr W) => blk_cell (blk_below HW.out (below_step HB1.out h)))
  have x3 := hW.out _ (Below.refl _ _) 3
  by_cases hlt : i < xs.length
  ·have hd2 : decide (i < xs.length) = true := decide_eq_true hlt
   rw [hd2] at hd
   have hib : (i : Int) < 9223372036854775807 := by omega
   have e3 := eq_true (show (0 : Int) ≤ (i : Int) from by omega)
   have e4 := eq_true (show (i : Int) < xs.length from by omega)
   obtain ⟨ad, hA, hx0, hx1⟩ := at_T149 (Kd.C_below HX.out HB1.out) (i : Int) (by omega) (by omega)
   subst hA
   have hdr := HI.out.2.2
   rw [List.drop_eq_getElem_cons hlt, aok] at hdr
   rw [show rd_T149 xs (i : Int) = xs[i] from by simp [rd_T149, hlt]] at hx0 hx1
   simp only [Int.toNat_natCast] at hx0 hx1
   have htk : xs.take (i + 1) = xs.take i ++ [xs[i]] := List.take_succ_eq_append_getElem hlt
   rw [← htk] at hdr
   generalize xs[i] = x at hx0 hx1 hdr
   have HI2 := am hlt
   have hcut := cut_head (A := some ad) (c := c) (xs := xs) (i := i) (by omega) HC.out
   have ht : (xs.take i).length = i := by rw [List.length_take]; omega
   obtain ⟨b, hb⟩ : ∃ b, (xs.take i).any (fun y => y.f0.toList == x.f0.toList) = b := ⟨_, rfl⟩
   have HL := am (show ∀ W, Below wr.heap.size wr W → Calls Tryz.prog 96 #[.slice (some ad) i c, .string x.f0] W (BoolAt W b) from fun W hW => by
    have h := l2Has_calls (xs.take i) x.f0 (some ad) c W (Kd.C_take (Kd.C_below HX.out (below_step HB1.out hW)) (by omega)) (by rw [ht]; have := HC.out; omega) b hb
    rwa [ht] at h)
   rw [hb] at hdr
   have HST := am (show ∀ W, Below wr.heap.size wr W → W.cell? ⟨w.heap.size, 3, none⟩ = some (.slice (some ad) xs.length c) ∧ W.cell? (ad.add (i * 2)) = some (.string x.f0) from fun W h => ⟨hW.out W h 3, pw_cell_below h hx0⟩)
   have HD1 := am (And.intro (Below.refl wr.heap.size wr) (Below.refl wr.heap.size wr).drew)
   obtain ⟨q, hq⟩ : ∃ q, (x.f0.toList == []) = q := ⟨_, rfl⟩
   rw [hq] at hdr
   clear hlt hn htk ht hb hx1
   go_wp2_with fail
   go_cut [67] (fun v67 wc => v67 = .bool (q || b) ∧ Aside0 (Below wr.heap.size wr wc))
   case first =>
    cases q
    ·first | (go_region_held3 (fun W => W.cell? ⟨w.heap.size, 3, none⟩ = some (.slice (some ad) xs.length c) ∧ W.cell? (ad.add (i * 2)) = some (.string x.f0)) (first | (with_reducible exact HST.out _ HD1.out.1) | (with_reducible exact HST.out _ HD1.out.2) | (with_reducible exact HST.out _ HB6.out) | go_keep) (first | (go_at_call 96; refine (HL.out _ (by with_reducible first | exact HD1.out.1 | exact HD1.out.2)).mono ?_; rintro e w6 ⟨rfl, hb6⟩; have HB6 := am (show Below wr.heap.size wr w6 from (by with_reducible first | exact hb6 | exact below_step HD1.out.2 hb6)); clear hb6) | fail)) | fail
     all_goals
      go_wp2
      go_meet
      case rel => exact ⟨rfl, ⟨by with_reducible exact HB6.out⟩⟩
    ·go_region
     go_wp2
     go_meet
     case rel => exact ⟨rfl, ⟨by with_reducible first | exact HD1.out.1 | exact HD1.out.2⟩⟩
   case rest =>
    obtain ⟨rfl, HC3⟩ := hcut
    clear hx0 x3 hcut
    cases hqb : (q || b)
    ·have HR := am (show aok (xs.take (i + 1)) (xs.drop (i + 1)) = aok [] xs from by rw [hqb] at hdr; exact hdr)
     clear hdr hq
     go_wp2
     have hii : (i : Int) + 1 = ((i + 1 : Nat) : Int) := by omega
     go_roundg (gk - 1)
     case measure => have := HI.out; omega
     case rel => exact ⟨i + 1, by rw [hii], ⟨by have := HI.out; omega, HI2.out, HR.out⟩, ⟨below_step HB1.out HC3.out⟩⟩
    ·have HR := am (show aok [] xs = false from by rw [hqb] at hdr; exact hdr.symm)
     clear hdr hq
     go_wp2
     go_ret
     rw [HR.out]
     exact ⟨rfl, HB.out.trans ((below_step HB1.out HC3.out).mono HB.out.size)⟩
  ·have hd2 : decide (i < xs.length) = false := decide_eq_false hlt
   rw [hd2] at hd
   have HE := am (show aok [] xs = true from by have h := HI.out.2.2; rw [List.drop_eq_nil_of_le (by omega)] at h; exact h.symm)
   have x2 := hW.out _ (Below.refl _ _) 2
   have x4 := hW.out _ (Below.refl _ _) 4
   clear hlt
   cases b2 <;> cases b4
   all_goals
    go_wp2
    go_ret
    rw [HE.out]
    exact ⟨rfl, HB.out.trans (HB1.out.mono HB.out.size)⟩
end Go.Proofs.YthjgohbkpjhkeaaGreatDoor.Impl
