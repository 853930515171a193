/- Part 25 of the proof: DoSpecH, DoSpecI. -/
import Derived.Test.YthjgohbkpjhkeaaGreatDoorA1
import Derived.Test.YthjgohbkpjhkeaaGreatDoorA24
import Derived.Test.YthjgohbkpjhkeaaGreatDoorA10
import Derived.Deep.RegionHeld3
set_option linter.unusedVariables false
set_option linter.unusedSimpArgs false
set_option maxHeartbeats 4000000
set_option maxRecDepth 100000
namespace Go.Proofs.YthjgohbkpjhkeaaGreatDoor.Impl
open Go.RowKit Go.Proofs.YthjgohbkpjhkeaaGreatDoorW.PrintWords Go.Proofs.YthjgohbkpjhkeaaGreatDoorW.PrintLast Go.Proofs.YthjgohbkpjhkeaaGreatDoorW.PrintMore Go.Proofs.YthjgohbkpjhkeaaGreatDoor.PFnExactDo Go.Proofs.YthjgohbkpjhkeaaGreatDoor.MapLib Go.Proofs.YthjgohbkpjhkeaaGreatDoor.FireSpec Go.Proofs.YthjgohbkpjhkeaaGreatDoor.Tr
theorem did_text_bad (w : World) (ns : List S95) (C : Chg) (A0 : Option Addr) (c0 : Nat) (A : Option Addr) (c : Nat) (hr : Kd.C k95 w A0 ns.length ns) (hc : ns.length ≤ c0) (h0 : C.f0 = 6) (k1 j : Nat) (h1 : spec_l4At.f k1 ns C.f1 = some (j : Int)) (hj : j < ns.length) (hj0 : j ≠ 0) (hk : (rd_T95 ns (j : Int)).f1 ≠ 3) :
  Calls Tryz.prog 41 #[.agg #[.slice A0 ns.length c0], chv C A c] w (DidEnd w [] zC 3) := by
 have HR := am hr
 have HC := am hc
 clear hr hc
 have HK := am (And.intro h1 hj)
 clear h1 hj
 have d1 : (C.f0 != 1) = true := by simp only [bne_iff_ne, ne_eq]; omega
 have d2 : (C.f0 == 1) = false := by simp only [beq_eq_false_iff_ne, ne_eq]; omega
 have d4 : decide (C.f0 < 1) = false := decide_eq_false (by omega)
 have d5 : decide (C.f0 > 6) = false := decide_eq_false (by omega)
 have e0 : ((j : Int) == 0) = false := by simp only [beq_eq_false_iff_ne, ne_eq]; omega
 have s3 : (C.f0 == 3) = false := by rw [h0]; rfl
 have s2 : (C.f0 == 2) = false := by rw [h0]; rfl
 have s6 : (C.f0 == 6) = true := by rw [h0]; rfl
 have e6 : ((rd_T95 ns (j : Int)).f1 != 3) = true := by simpa using hk
 clear h0 hj0 hk
 go_enter Tryz.func41, Tryz.ntmps41
 go_wp2_with fail
 have HS0 := am (DB.four (w := w) (A0 := A0) (n := ns.length) (c0 := c0) (C := C) (A := A) (c := c))
 generalize World.alloc _ _ = w1 at HS0 ⊢
 refine (spec_l4At.calls k1 A0 c0 ns C.f1 _ w1 (Kd.C_below HR.out HS0.out.s.b) HC.out HK.out.1).mono ?_
 rintro e w2 ⟨rfl, hb2⟩
 have HS2 := am (HS0.out.below hb2)
 clear hb2 HS0
 obtain ⟨xt, x0, x1, x2, x3, x4, x5, x6, x7⟩ := HS2.out.s.cells
 obtain ⟨z0, z1, z2, z3, z4, z5, z6, z7⟩ := HS2.out.zc
 obtain ⟨f0, f1, f2, f3, f4, f5, f6, f7⟩ := HS2.out.zf
 have e1 : decide ((j : Int) < 0) = false := decide_eq_false (by omega)
 obtain ⟨ad, A3, c3, rfl, hx0, hx1, hx2, hx3, hx4, hx5, hl3, hi3⟩ := at_T95 (Kd.C_below HR.out HS2.out.s.b) (j : Int) (by omega) (by have := HK.out.2; omega)
 have e3 := eq_true (show (0 : Int) ≤ (j : Int) from by omega)
 have e4 := eq_true (show (j : Int) < (ns.length : Int) from by have := HK.out.2; omega)
 simp only [Int.toNat_natCast] at hx0 hx1 hx2 hx3 hx4 hx5
 go_wp2
 clear z0 z1 z2 z3 z4 z5 z6 z7 xt x0 x1 x2 x3 x4 x5 x6 x7 f0 f1 f2 f3 f4 f5 f6 f7
 generalize hw9 : World.setCell _ _ _ = w9
 obtain ⟨h1, h2, h3, h4⟩ := HS2.out.set (R := zC) (Ar := none) (cr := 0) hw9.symm
 obtain ⟨y0, y1, y2, y3, y4, y5, y6, y7⟩ := cells8t h1
 have hut := Tryz.underlying33
 have HZ := am h4
 clear h1 h2 h3 h4 hw9
 refine bodyPost_ret (v := .tuple #[.slice (some ⟨w.heap.size + 1 + 1 + 1, 0, none⟩) 0 0, chv zC none 0, .int .i64 3]) (by simp [results, Tryz.results41, go_sem, y0, y1, y2, y3, y4, y5, y6, y7, hut]) rfl (show DidEnd _ _ _ _ _ _ from ?_)
 exact ⟨_, 0, none, 0, rfl, none_reads _ _, Nat.le_refl _, none_reads _ _, Nat.le_refl _, HZ.out⟩
theorem did_remove (w : World) (ns : List S95) (C : Chg) (A0 : Option Addr) (c0 : Nat) (A : Option Addr) (c : Nat) (hr : Kd.C k95 w A0 ns.length ns) (hc : ns.length ≤ c0) (h0 : C.f0 = 2) (k1 j : Nat) (h1 : spec_l4At.f k1 ns C.f1 = some (j : Int)) (hj : j < ns.length) (hj0 : j ≠ 0) (out : List S95) (R : Chg) (code : Int) (hX : ∀ W, Kd.C k95 W A0 ns.length ns → Calls Tryz.prog 71 #[.agg #[.slice A0 ns.length c0], .int .i64 j] W (DidEnd W out R code)) :
  Calls Tryz.prog 41 #[.agg #[.slice A0 ns.length c0], chv C A c] w (DidEnd w out R code) := by
 have HR := am hr
 have HC := am hc
 clear hr hc
 have HK := am (And.intro h1 hj)
 clear h1 hj
 have HX := am hX
 clear hX
 have d1 : (C.f0 != 1) = true := by simp only [bne_iff_ne, ne_eq]; omega
 have d2 : (C.f0 == 1) = false := by simp only [beq_eq_false_iff_ne, ne_eq]; omega
 have d4 : decide (C.f0 < 1) = false := decide_eq_false (by omega)
 have d5 : decide (C.f0 > 6) = false := decide_eq_false (by omega)
 have e0 : ((j : Int) == 0) = false := by simp only [beq_eq_false_iff_ne, ne_eq]; omega
 have s3 : (C.f0 == 3) = false := by rw [h0]; rfl
 have s2 : (C.f0 == 2) = true := by rw [h0]; rfl
 clear h0 hj0
 go_enter Tryz.func41, Tryz.ntmps41
 go_wp2_with fail
 have HS0 := am (DB.four (w := w) (A0 := A0) (n := ns.length) (c0 := c0) (C := C) (A := A) (c := c))
 generalize World.alloc _ _ = w1 at HS0 ⊢
 refine (spec_l4At.calls k1 A0 c0 ns C.f1 _ w1 (Kd.C_below HR.out HS0.out.s.b) HC.out HK.out.1).mono ?_
 rintro e w2 ⟨rfl, hb2⟩
 have HS2 := am (HS0.out.below hb2)
 clear hb2 HS0
 obtain ⟨xt, x0, x1, x2, x3, x4, x5, x6, x7⟩ := HS2.out.s.cells
 obtain ⟨z0, z1, z2, z3, z4, z5, z6, z7⟩ := HS2.out.zc
 obtain ⟨f0, f1, f2, f3, f4, f5, f6, f7⟩ := HS2.out.zf
 have e1 : decide ((j : Int) < 0) = false := decide_eq_false (by omega)
 go_wp2_with fail
 have HS2z := am (show w.heap.size + 3 < w2.heap.size from blk_lt HS2.out.n)
 refine (HX.out w2 (Kd.C_below HR.out HS2.out.s.b)).mono ?_
 rintro e w3 ⟨A1, c1, A2, c2, rfl, hf1, hc1, hf2, hc2, hb3⟩
 have HS3 := am (HS2.out.below hb3)
 have HF := am (And.intro hf1 (And.intro hc1 (And.intro hf2 (And.intro hc2 HS2.out.s.b.size))))
 clear hb3 hf1 hc1 hf2 hc2
 clear xt x0 x1 x2 x3 x4 x5 x6 x7 z0 z1 z2 z3 z4 z5 z6 z7 f0 f1 f2 f3 f4 f5 f6 f7
 obtain ⟨xt, x0, x1, x2, x3, x4, x5, x6, x7⟩ := HS3.out.s.cells
 obtain ⟨z0, z1, z2, z3, z4, z5, z6, z7⟩ := HS3.out.zc
 obtain ⟨f0, f1, f2, f3, f4, f5, f6, f7⟩ := HS3.out.zf
 go_wp2
 clear z0 z1 z2 z3 z4 z5 z6 z7 xt x0 x1 x2 x3 x4 x5 x6 x7 f0 f1 f2 f3 f4 f5 f6 f7
 generalize hw9 : World.setCell _ _ _ = w9
 obtain ⟨h1, h2, h3, h4⟩ := HS3.out.set (R := R) (Ar := A2) (cr := c2) hw9.symm
 obtain ⟨y0, y1, y2, y3, y4, y5, y6, y7⟩ := cells8t h1
 have hut := Tryz.underlying33
 have HZ := am (And.intro h2 h4)
 clear h1 h2 h3 h4 hw9
 refine bodyPost_ret (v := .tuple #[.slice A1 out.length c1, chv R A2 c2, .int .i64 code]) (by simp [results, Tryz.results41, go_sem, y0, y1, y2, y3, y4, y5, y6, y7, hut]) rfl (show DidEnd _ _ _ _ _ _ from ?_)
 exact ⟨A1, c1, A2, c2, rfl, Kd.F_mono (Kd.F_step HF.out.1 (fun k hk _ => HZ.out.1 k (by have := HF.out.2.2.2.2; have := HS2z.out; omega))) (fun k hk => by have := HF.out.2.2.2.2; omega), HF.out.2.1, Kd.F_mono (Kd.F_step HF.out.2.2.1 (fun k hk _ => HZ.out.1 k (by have := HF.out.2.2.2.2; have := HS2z.out; omega))) (fun k hk => by have := HF.out.2.2.2.2; omega), HF.out.2.2.2.1, HZ.out.2⟩
theorem did_move (w : World) (ns : List S95) (C : Chg) (A0 : Option Addr) (c0 : Nat) (A : Option Addr) (c : Nat) (hr : Kd.C k95 w A0 ns.length ns) (hc : ns.length ≤ c0) (h0 : C.f0 = 3) (k1 j : Nat) (h1 : spec_l4At.f k1 ns C.f1 = some (j : Int)) (hj : j < ns.length) (hj0 : j ≠ 0) (p x : Int) (hAim : ∀ W, Kd.C k95 W A0 ns.length ns → Calls Tryz.prog 68 #[.agg #[.slice A0 ns.length c0], chv C A c] W (aimEnd W p x 0)) (out : List S95) (R : Chg) (code : Int) (hX : ∀ W, Kd.C k95 W A0 ns.length ns → Below w.heap.size w W → Calls Tryz.prog 72 #[.agg #[.slice A0 ns.length c0], chv C A c, .int .i64 j, .int .i64 p, .int .i64 x] W (DidEnd W out R code)) :
  Calls Tryz.prog 41 #[.agg #[.slice A0 ns.length c0], chv C A c] w (DidEnd w out R code) := by
 have HR := am hr
 have HC := am hc
 clear hr hc
 have HAim := am hAim
 clear hAim
 have HK := am (And.intro h1 hj)
 clear h1 hj
 have HX := am hX
 clear hX
 have d1 : (C.f0 != 1) = true := by simp only [bne_iff_ne, ne_eq]; omega
 have d2 : (C.f0 == 1) = false := by simp only [beq_eq_false_iff_ne, ne_eq]; omega
 have d4 : decide (C.f0 < 1) = false := decide_eq_false (by omega)
 have d5 : decide (C.f0 > 6) = false := decide_eq_false (by omega)
 have e0 : ((j : Int) == 0) = false := by simp only [beq_eq_false_iff_ne, ne_eq]; omega
 have s3 : (C.f0 == 3) = true := by rw [h0]; rfl
 have s2 : (C.f0 == 2) = false := by rw [h0]; rfl
 clear h0 hj0
 go_enter Tryz.func41, Tryz.ntmps41
 go_wp2_with fail
 have HS0 := am (DB.four (w := w) (A0 := A0) (n := ns.length) (c0 := c0) (C := C) (A := A) (c := c))
 generalize World.alloc _ _ = w1 at HS0 ⊢
 refine (spec_l4At.calls k1 A0 c0 ns C.f1 _ w1 (Kd.C_below HR.out HS0.out.s.b) HC.out HK.out.1).mono ?_
 rintro e w2 ⟨rfl, hb2⟩
 have HS2 := am (HS0.out.below hb2)
 clear hb2 HS0
 obtain ⟨xt, x0, x1, x2, x3, x4, x5, x6, x7⟩ := HS2.out.s.cells
 obtain ⟨z0, z1, z2, z3, z4, z5, z6, z7⟩ := HS2.out.zc
 obtain ⟨f0, f1, f2, f3, f4, f5, f6, f7⟩ := HS2.out.zf
 have e1 : decide ((j : Int) < 0) = false := decide_eq_false (by omega)
 go_wp2_with fail
 refine (HAim.out w2 (Kd.C_below HR.out HS2.out.s.b)).mono ?_
 rintro e w3 ⟨rfl, hb3⟩
 have HS3 := am (HS2.out.below hb3)
 clear hb3 HS2
 clear xt x0 x1 x2 x3 x4 x5 x6 x7 z0 z1 z2 z3 z4 z5 z6 z7 f0 f1 f2 f3 f4 f5 f6 f7
 obtain ⟨xt, x0, x1, x2, x3, x4, x5, x6, x7⟩ := HS3.out.s.cells
 obtain ⟨z0, z1, z2, z3, z4, z5, z6, z7⟩ := HS3.out.zc
 obtain ⟨f0, f1, f2, f3, f4, f5, f6, f7⟩ := HS3.out.zf
 go_wp2_with fail
 have HS2z := am (show w.heap.size + 3 < w3.heap.size from blk_lt HS3.out.n)
 refine (HX.out w3 (Kd.C_below HR.out HS3.out.s.b) HS3.out.s.b).mono ?_
 rintro e w4 ⟨A1, c1, A2, c2, rfl, hf1, hc1, hf2, hc2, hb3⟩
 have HS4 := am (HS3.out.below hb3)
 have HF := am (And.intro hf1 (And.intro hc1 (And.intro hf2 (And.intro hc2 HS3.out.s.b.size))))
 clear hb3 hf1 hc1 hf2 hc2
 clear xt x0 x1 x2 x3 x4 x5 x6 x7 z0 z1 z2 z3 z4 z5 z6 z7 f0 f1 f2 f3 f4 f5 f6 f7
 obtain ⟨xt, x0, x1, x2, x3, x4, x5, x6, x7⟩ := HS4.out.s.cells
 obtain ⟨z0, z1, z2, z3, z4, z5, z6, z7⟩ := HS4.out.zc
 obtain ⟨f0, f1, f2, f3, f4, f5, f6, f7⟩ := HS4.out.zf
 go_wp2
 clear z0 z1 z2 z3 z4 z5 z6 z7 xt x0 x1 x2 x3 x4 x5 x6 x7 f0 f1 f2 f3 f4 f5 f6 f7
 generalize hw9 : World.setCell _ _ _ = w9
 obtain ⟨h1, h2, h3, h4⟩ := HS4.out.set (R := R) (Ar := A2) (cr := c2) hw9.symm
 obtain ⟨y0, y1, y2, y3, y4, y5, y6, y7⟩ := cells8t h1
 have hut := Tryz.underlying33
 have HZ := am (And.intro h2 h4)
 clear h1 h2 h3 h4 hw9
 refine bodyPost_ret (v := .tuple #[.slice A1 out.length c1, chv R A2 c2, .int .i64 code]) (by simp [results, Tryz.results41, go_sem, y0, y1, y2, y3, y4, y5, y6, y7, hut]) rfl (show DidEnd _ _ _ _ _ _ from ?_)
 exact ⟨A1, c1, A2, c2, rfl, Kd.F_mono (Kd.F_step HF.out.1 (fun k hk _ => HZ.out.1 k (by have := HF.out.2.2.2.2; have := HS2z.out; omega))) (fun k hk => by have := HF.out.2.2.2.2; omega), HF.out.2.1, Kd.F_mono (Kd.F_step HF.out.2.2.1 (fun k hk _ => HZ.out.1 k (by have := HF.out.2.2.2.2; have := HS2z.out; omega))) (fun k hk => by have := HF.out.2.2.2.2; omega), HF.out.2.2.2.1, HZ.out.2⟩
theorem did_attrs (w : World) (ns : List S95) (C : Chg) (A0 : Option Addr) (c0 : Nat) (A : Option Addr) (c : Nat) (hr : Kd.C k95 w A0 ns.length ns) (hc : ns.length ≤ c0) (h0 : C.f0 = 4 ∨ C.f0 = 5) (k1 j : Nat) (h1 : spec_l4At.f k1 ns C.f1 = some (j : Int)) (hj : j < ns.length) (hj0 : j ≠ 0) (out : List S95) (R : Chg) (code : Int) (hX : ∀ W, Kd.C k95 W A0 ns.length ns → Calls Tryz.prog 73 #[.agg #[.slice A0 ns.length c0], chv C A c, .int .i64 j] W (DidEnd W out R code)) :
  Calls Tryz.prog 41 #[.agg #[.slice A0 ns.length c0], chv C A c] w (DidEnd w out R code) := by
 have HR := am hr
 have HC := am hc
 clear hr hc
 have HK := am (And.intro h1 hj)
 clear h1 hj
 have HX := am hX
 clear hX
 have d1 : (C.f0 != 1) = true := by simp only [bne_iff_ne, ne_eq]; omega
 have d2 : (C.f0 == 1) = false := by simp only [beq_eq_false_iff_ne, ne_eq]; omega
 have d4 : decide (C.f0 < 1) = false := decide_eq_false (by omega)
 have d5 : decide (C.f0 > 6) = false := decide_eq_false (by omega)
 have e0 : ((j : Int) == 0) = false := by simp only [beq_eq_false_iff_ne, ne_eq]; omega
 have s2 : (C.f0 == 2) = false := by simp only [beq_eq_false_iff_ne, ne_eq]; omega
 have s3 : (C.f0 == 3) = false := by simp only [beq_eq_false_iff_ne, ne_eq]; omega
 have s6 : (C.f0 == 6) = false := by simp only [beq_eq_false_iff_ne, ne_eq]; omega
 clear h0 hj0
 go_enter Tryz.func41, Tryz.ntmps41
 go_wp2_with fail
 have HS0 := am (DB.four (w := w) (A0 := A0) (n := ns.length) (c0 := c0) (C := C) (A := A) (c := c))
 generalize World.alloc _ _ = w1 at HS0 ⊢
 refine (spec_l4At.calls k1 A0 c0 ns C.f1 _ w1 (Kd.C_below HR.out HS0.out.s.b) HC.out HK.out.1).mono ?_
 rintro e w2 ⟨rfl, hb2⟩
 have HS2 := am (HS0.out.below hb2)
 clear hb2 HS0
 obtain ⟨xt, x0, x1, x2, x3, x4, x5, x6, x7⟩ := HS2.out.s.cells
 obtain ⟨z0, z1, z2, z3, z4, z5, z6, z7⟩ := HS2.out.zc
 obtain ⟨f0, f1, f2, f3, f4, f5, f6, f7⟩ := HS2.out.zf
 have e1 : decide ((j : Int) < 0) = false := decide_eq_false (by omega)
 go_wp2_with fail
 have HS2z := am (show w.heap.size + 3 < w2.heap.size from blk_lt HS2.out.n)
 refine (HX.out w2 (Kd.C_below HR.out HS2.out.s.b)).mono ?_
 rintro e w3 ⟨A1, c1, A2, c2, rfl, hf1, hc1, hf2, hc2, hb3⟩
 have HS3 := am (HS2.out.below hb3)
 have HF := am (And.intro hf1 (And.intro hc1 (And.intro hf2 (And.intro hc2 HS2.out.s.b.size))))
 clear hb3 hf1 hc1 hf2 hc2
 clear xt x0 x1 x2 x3 x4 x5 x6 x7 z0 z1 z2 z3 z4 z5 z6 z7 f0 f1 f2 f3 f4 f5 f6 f7
 obtain ⟨xt, x0, x1, x2, x3, x4, x5, x6, x7⟩ := HS3.out.s.cells
 obtain ⟨z0, z1, z2, z3, z4, z5, z6, z7⟩ := HS3.out.zc
 obtain ⟨f0, f1, f2, f3, f4, f5, f6, f7⟩ := HS3.out.zf
 go_wp2
 clear z0 z1 z2 z3 z4 z5 z6 z7 xt x0 x1 x2 x3 x4 x5 x6 x7 f0 f1 f2 f3 f4 f5 f6 f7
 generalize hw9 : World.setCell _ _ _ = w9
 obtain ⟨h1, h2, h3, h4⟩ := HS3.out.set (R := R) (Ar := A2) (cr := c2) hw9.symm
 obtain ⟨y0, y1, y2, y3, y4, y5, y6, y7⟩ := cells8t h1
 have hut := Tryz.underlying33
 have HZ := am (And.intro h2 h4)
 clear h1 h2 h3 h4 hw9
 refine bodyPost_ret (v := .tuple #[.slice A1 out.length c1, chv R A2 c2, .int .i64 code]) (by simp [results, Tryz.results41, go_sem, y0, y1, y2, y3, y4, y5, y6, y7, hut]) rfl (show DidEnd _ _ _ _ _ _ from ?_)
 exact ⟨A1, c1, A2, c2, rfl, Kd.F_mono (Kd.F_step HF.out.1 (fun k hk _ => HZ.out.1 k (by have := HF.out.2.2.2.2; have := HS2z.out; omega))) (fun k hk => by have := HF.out.2.2.2.2; omega), HF.out.2.1, Kd.F_mono (Kd.F_step HF.out.2.2.1 (fun k hk _ => HZ.out.1 k (by have := HF.out.2.2.2.2; have := HS2z.out; omega))) (fun k hk => by have := HF.out.2.2.2.2; omega), HF.out.2.2.2.1, HZ.out.2⟩
end Go.Proofs.YthjgohbkpjhkeaaGreatDoor.Impl
set_option maxHeartbeats 4000000
set_option maxRecDepth 100000
namespace Go.Proofs.YthjgohbkpjhkeaaGreatDoor.Impl
open Go.RowKit Go.Proofs.YthjgohbkpjhkeaaGreatDoorW.PrintWords Go.Proofs.YthjgohbkpjhkeaaGreatDoorW.PrintLast Go.Proofs.YthjgohbkpjhkeaaGreatDoorW.PrintMore Go.Proofs.YthjgohbkpjhkeaaGreatDoor.PFnExactDo Go.Proofs.YthjgohbkpjhkeaaGreatDoor.MapLib Go.Proofs.YthjgohbkpjhkeaaGreatDoor.FireSpec Go.Proofs.YthjgohbkpjhkeaaGreatDoor.Tr
section
variable {P : Program} {md : Region.Mode} {ops : Array Oper} {S : World → Prop} {ds : List Nat} {Q : Exit → Act → World → Prop}
theorem sk (i n : Nat) {oi : Oper} {fuel : Nat} {l : Array Bool} {a : Act} {w : World} (hl : l[i]? = some false) (hi : ops[i]? = some oi) (hN : oi.dst = some n) (hc : anyB md ops l (l.setIfInBounds i true) i = true)
  (hQ : ∀ c a w, Q (.panic c) (a.put oi.dst undef) w → Q (.panic c) a w) (hw : Region.wanted oi (yielded ops a.tmps) = false) {a' : Act} (ha : a.put (some n) undef = a')
  (h : wpAnyLast P md ops Q S ds fuel (l.setIfInBounds i true) a' w) : wpAnyLast P md ops Q S ds (fuel + 1) l a w := pu i n hl hi hN hc hQ (Or.inr ⟨hw, rfl⟩) ha h
end
def NodeS (w : World) (ad : Addr) (p n c0 : Nat) (nd : S95) (A3 : Option Addr) (c3 : Nat) (A : Option Addr) (m c : Nat) (W : World) : Prop := W.cell? ⟨w.heap.size, 0, none⟩ = some (.slice (some ad) n c0) ∧ W.cell? ⟨w.heap.size + 1, 7, none⟩ = some (.slice A m c) ∧ W.cell? (ad.add (p * 6)) = some (.int .i64 nd.f0) ∧ W.cell? ⟨(ad.add (p * 6)).block, (ad.add (p * 6)).off + 1, none⟩ = some (.int .i64 nd.f1) ∧ W.cell? ⟨(ad.add (p * 6)).block, (ad.add (p * 6)).off + 2, none⟩ = some (.string nd.f2) ∧ W.cell? ⟨(ad.add (p * 6)).block, (ad.add (p * 6)).off + 3, none⟩ = some (.slice A3 nd.f3.length c3) ∧ W.cell? ⟨(ad.add (p * 6)).block, (ad.add (p * 6)).off + 4, none⟩ = some (.string nd.f4) ∧ W.cell? ⟨(ad.add (p * 6)).block, (ad.add (p * 6)).off + 5, none⟩ = some (.int .i64 nd.f5)
theorem did_ins_kind (w : World) (ns : List S95) (C : Chg) (A0 : Option Addr) (c0 : Nat) (A : Option Addr) (c : Nat) (hr : Kd.C k95 w A0 ns.length ns) (hc : ns.length ≤ c0) (h0 : C.f0 = 1) (p x : Nat) (hp : p < ns.length) (hAim : ∀ W, Kd.C k95 W A0 ns.length ns → Calls Tryz.prog 68 #[.agg #[.slice A0 ns.length c0], chv C A c] W (aimEnd W p x 0)) (hb : Bool) (hhb : spec_l5Holds.f (rd_T95 ns (p : Int)).f0 (rd_T95 ns (p : Int)).f1 (rd_T95 ns (p : Int)).f2 (rd_T95 ns (p : Int)).f3 (rd_T95 ns (p : Int)).f4 (rd_T95 ns (p : Int)).f5 = some hb) (hbf : hb = false) :
  Calls Tryz.prog 41 #[.agg #[.slice A0 ns.length c0], chv C A c] w (DidEnd w [] zC 3) := by
 have HR := am hr
 have HC := am hc
 clear hr hc
 have HAim := am hAim
 clear hAim
 have HP := am hp
 have HHB := am hhb
 have d1 : (C.f0 != 1) = false := by rw [h0]; rfl
 have d2 : (C.f0 == 1) = true := by rw [h0]; rfl
 have d4 : decide (C.f0 < 1) = false := decide_eq_false (by omega)
 have d5 : decide (C.f0 > 6) = false := decide_eq_false (by omega)
 clear h0 hp hhb
 subst hbf
 go_enter Tryz.func41, Tryz.ntmps41
 go_wp2_with fail
 have HS0 := am (DB.four (w := w) (A0 := A0) (n := ns.length) (c0 := c0) (C := C) (A := A) (c := c))
 generalize World.alloc _ _ = w1 at HS0 ⊢
 refine (HAim.out w1 (Kd.C_below HR.out HS0.out.s.b)).mono ?_
 rintro e w2 ⟨rfl, hb3⟩
 have HS2 := am (HS0.out.below hb3)
 clear hb3 HS0
 obtain ⟨xt, x0, x1, x2, x3, x4, x5, x6, x7⟩ := HS2.out.s.cells
 obtain ⟨z0, z1, z2, z3, z4, z5, z6, z7⟩ := HS2.out.zc
 obtain ⟨f0, f1, f2, f3, f4, f5, f6, f7⟩ := HS2.out.zf
 obtain ⟨ad, A3, c3, rfl, hx0, hx1, hx2, hx3, hx4, hx5, hl3, hi3⟩ := at_T95 (Kd.C_below HR.out HS2.out.s.b) (p : Int) (by omega) (by have := HP.out; omega)
 have e3 := eq_true (show (0 : Int) ≤ (p : Int) from by omega)
 have e4 := eq_true (show (p : Int) < (ns.length : Int) from by have := HP.out; omega)
 simp only [Int.toNat_natCast] at hx0 hx1 hx2 hx3 hx4 hx5
 generalize rd_T95 ns (p : Int) = nd at HHB hx0 hx1 hx2 hx3 hx4 hx5 hl3 hi3
 have HH := am (show ∀ W, Below w2.heap.size w2 W → Calls Tryz.prog 69 #[.agg #[.int .i64 nd.f0, .int .i64 nd.f1, .string nd.f2, .slice A3 nd.f3.length c3, .string nd.f4, .int .i64 nd.f5]] W fun e w' => e = .returned (.bool false) ∧ Below W.heap.size W w' from fun W hW => spec_l5Holds.calls _ _ _ A3 c3 _ _ _ false W (Kd.C_below hi3 hW) hl3 HHB.out)
 have HI3 := am (And.intro hi3 hl3)
 clear hi3 hl3
 go_wp2_with fail
 have HD2 := am (And.intro (Below.refl w2.heap.size w2) (Below.refl w2.heap.size w2).drew)
 have HST := am (show ∀ W, Below w2.heap.size w2 W → NodeS w ad p ns.length c0 nd A3 c3 A C.f7.length c W from fun W hW => ⟨pw_cell_below hW xt, pw_cell_below hW x7, pw_cell_below hW hx0, pw_cell_below hW hx1, pw_cell_below hW hx2, pw_cell_below hW hx3, pw_cell_below hW hx4, pw_cell_below hW hx5⟩)
 go_cut [84] (fun v84 wc => v84 = .bool true ∧ Aside0 (Below w2.heap.size w2 wc))
 case first =>
  clear z0 z1 z2 z3 z4 z5 z6 z7 f0 f1 f2 f3 f4 f5 f6 f7 x0 x1 x2 x3 x4 x5 x6
  refine start_ (n := 22) (S := NodeS w ad p ns.length c0 nd A3 c3 A C.f7.length c) (ds := []) #[false, false, false, false, false, false, false, false, false, false, false, false, false, false, false, false, false, false, false, false, false, false] (by kernel_rfl) rfl rfl (HST.out _ HD2.out.2) (fun hHeld => ?_)
  repeat ((first | refine pu 0 63 (v := ?_) (a' := ?_) rfl rfl rfl (by kernel_rfl) (fun _ _ _ h => h) (Or.inl ⟨by rfl, ?_⟩) ?_ ?_ | refine tk 1 64 (v := ?_) (a' := ?_) rfl rfl rfl (by kernel_rfl) (fun _ _ _ h => h) (Or.inl ⟨by rfl, ?_⟩) hHeld ?_ ?_ | refine pu 2 65 (v := ?_) (a' := ?_) rfl rfl rfl (by kernel_rfl) (fun _ _ _ h => h) (Or.inl ⟨by rfl, ?_⟩) ?_ ?_ | refine pu 3 66 (v := ?_) (a' := ?_) rfl rfl rfl (by kernel_rfl) (fun _ _ _ h => h) (Or.inl ⟨by rfl, ?_⟩) ?_ ?_ | refine tk 4 67 (v := ?_) (a' := ?_) rfl rfl rfl (by kernel_rfl) (fun _ _ _ h => h) (Or.inl ⟨by rfl, ?_⟩) hHeld ?_ ?_); rotate_left; (first | (rintro w' ⟨s0, s1, s2, s3, s4, s5, s6, s7⟩; go_simp; with_reducible rfl) | (intro w'; go_simp; with_reducible rfl)); rotate_left; (simp only [Act.put, List.setIfInBounds_toArray, List.set_cons_zero, List.set_cons_succ]; rfl))
  refine on1 5 68 rfl rfl rfl (by kernel_rfl) (by decide) (fun K hK => ?_)
  refine goes_ Tryz.func69 (by kernel_rfl) rfl #[.agg #[.int .i64 nd.f0, .int .i64 nd.f1, .string nd.f2, .slice A3 nd.f3.length c3, .string nd.f4, .int .i64 nd.f5]] (by rfl) rfl rfl (by (try simp only [List.map_toArray, List.map_cons, List.map_nil]); first | done | rfl) ?_
  refine (HH.out _ HD2.out.2).mono ?_
  rintro e w3 ⟨rfl, hb3⟩
  have HB3 := am (below_step HD2.out.2 hb3)
  refine ⟨_, rfl, ?_⟩
  refine hK.out _ _ (HST.out _ HB3.out) (fun hHeld => ?_)
  clear hK K hb3
  refine norm_ (a' := ?_) ?_ ?_
  rotate_left
  ·show Act.put _ (some 68) _ = _; simp only [Act.put, List.setIfInBounds_toArray, List.set_cons_zero, List.set_cons_succ]; rfl
  repeat ((first | refine pu 6 69 (v := ?_) (a' := ?_) rfl rfl rfl (by kernel_rfl) (fun _ _ _ h => h) (Or.inl ⟨by rfl, ?_⟩) ?_ ?_ | refine pu 7 70 (v := ?_) (a' := ?_) rfl rfl rfl (by kernel_rfl) (fun _ _ _ h => h) (Or.inl ⟨by rfl, ?_⟩) ?_ ?_); rotate_left; (intro w'; go_simp; with_reducible rfl); rotate_left; (simp only [Act.put, List.setIfInBounds_toArray, List.set_cons_zero, List.set_cons_succ]; rfl))
  repeat ((first | refine sk 8 71 (a' := ?_) rfl rfl rfl (by kernel_rfl) (fun _ _ _ h => h) (by rfl) ?_ ?_ | refine sk 9 72 (a' := ?_) rfl rfl rfl (by kernel_rfl) (fun _ _ _ h => h) (by rfl) ?_ ?_ | refine sk 10 73 (a' := ?_) rfl rfl rfl (by kernel_rfl) (fun _ _ _ h => h) (by rfl) ?_ ?_ | refine sk 11 74 (a' := ?_) rfl rfl rfl (by kernel_rfl) (fun _ _ _ h => h) (by rfl) ?_ ?_); rotate_left; (simp only [Act.put, List.setIfInBounds_toArray, List.set_cons_zero, List.set_cons_succ]; rfl))
  repeat ((first | refine pu 12 75 (v := ?_) (a' := ?_) rfl rfl rfl (by kernel_rfl) (fun _ _ _ h => h) (Or.inl ⟨by rfl, ?_⟩) ?_ ?_ | refine pu 13 76 (v := ?_) (a' := ?_) rfl rfl rfl (by kernel_rfl) (fun _ _ _ h => h) (Or.inl ⟨by rfl, ?_⟩) ?_ ?_); rotate_left; (intro w'; go_simp; with_reducible rfl); rotate_left; (simp only [Act.put, List.setIfInBounds_toArray, List.set_cons_zero, List.set_cons_succ]; rfl))
  repeat ((first | refine sk 14 77 (a' := ?_) rfl rfl rfl (by kernel_rfl) (fun _ _ _ h => h) (by rfl) ?_ ?_ | refine sk 15 78 (a' := ?_) rfl rfl rfl (by kernel_rfl) (fun _ _ _ h => h) (by rfl) ?_ ?_ | refine sk 16 79 (a' := ?_) rfl rfl rfl (by kernel_rfl) (fun _ _ _ h => h) (by rfl) ?_ ?_ | refine sk 17 80 (a' := ?_) rfl rfl rfl (by kernel_rfl) (fun _ _ _ h => h) (by rfl) ?_ ?_ | refine sk 18 81 (a' := ?_) rfl rfl rfl (by kernel_rfl) (fun _ _ _ h => h) (by rfl) ?_ ?_ | refine sk 19 82 (a' := ?_) rfl rfl rfl (by kernel_rfl) (fun _ _ _ h => h) (by rfl) ?_ ?_ | refine sk 20 83 (a' := ?_) rfl rfl rfl (by kernel_rfl) (fun _ _ _ h => h) (by rfl) ?_ ?_); rotate_left; (simp only [Act.put, List.setIfInBounds_toArray, List.set_cons_zero, List.set_cons_succ]; rfl))
  repeat ((first | refine pu 21 84 (v := ?_) (a' := ?_) rfl rfl rfl (by kernel_rfl) (fun _ _ _ h => h) (Or.inl ⟨by rfl, ?_⟩) ?_ ?_); rotate_left; (intro w'; go_simp; with_reducible rfl); rotate_left; (simp only [Act.put, List.setIfInBounds_toArray, List.set_cons_zero, List.set_cons_succ]; rfl))
  refine done_ (by kernel_rfl) ?_
  all_goals
   go_wp2
   go_meet
   case rel => exact ⟨rfl, ⟨by with_reducible first | exact HB4.out | exact HB3.out⟩⟩
 case rest =>
  obtain ⟨rfl, HF⟩ := hcut
  clear xt x0 x1 x2 x3 x4 x5 x6 x7 hx0 hx1 hx2 hx3 hx4 hx5
  have HS3 := am (HS2.out.below HF.out)
  clear HF HH HST HD2
  obtain ⟨xt, x0, x1, x2, x3, x4, x5, x6, x7⟩ := HS3.out.s.cells
  obtain ⟨z0, z1, z2, z3, z4, z5, z6, z7⟩ := HS3.out.zc
  obtain ⟨f0, f1, f2, f3, f4, f5, f6, f7⟩ := HS3.out.zf
  go_wp2
  clear z0 z1 z2 z3 z4 z5 z6 z7 xt x0 x1 x2 x3 x4 x5 x6 x7 f0 f1 f2 f3 f4 f5 f6 f7
  generalize hw9 : World.setCell _ _ _ = w9
  obtain ⟨h1, h2, h3, h4⟩ := HS3.out.set (R := zC) (Ar := none) (cr := 0) hw9.symm
  obtain ⟨y0, y1, y2, y3, y4, y5, y6, y7⟩ := cells8t h1
  have hut := Tryz.underlying33
  have HZ := am h4
  clear h1 h2 h3 h4 hw9
  refine bodyPost_ret (v := .tuple #[.slice (some ⟨w.heap.size + 1 + 1 + 1, 0, none⟩) 0 0, chv zC none 0, .int .i64 3]) (by simp [results, Tryz.results41, go_sem, y0, y1, y2, y3, y4, y5, y6, y7, hut]) rfl (show DidEnd _ _ _ _ _ _ from ?_)
  exact ⟨_, 0, none, 0, rfl, none_reads _ _, Nat.le_refl _, none_reads _ _, Nat.le_refl _, HZ.out⟩
theorem did_ins_nil (w : World) (ns : List S95) (C : Chg) (A0 : Option Addr) (c0 : Nat) (A : Option Addr) (c : Nat) (hr : Kd.C k95 w A0 ns.length ns) (hc : ns.length ≤ c0) (h0 : C.f0 = 1) (p x : Nat) (hp : p < ns.length) (hAim : ∀ W, Kd.C k95 W A0 ns.length ns → Calls Tryz.prog 68 #[.agg #[.slice A0 ns.length c0], chv C A c] W (aimEnd W p x 0)) (hb : Bool) (hhb : spec_l5Holds.f (rd_T95 ns (p : Int)).f0 (rd_T95 ns (p : Int)).f1 (rd_T95 ns (p : Int)).f2 (rd_T95 ns (p : Int)).f3 (rd_T95 ns (p : Int)).f4 (rd_T95 ns (p : Int)).f5 = some hb) (hbf : hb = true) (hnil : C.f7.length = 0) :
  Calls Tryz.prog 41 #[.agg #[.slice A0 ns.length c0], chv C A c] w (DidEnd w [] zC 3) := by
 have HR := am hr
 have HC := am hc
 clear hr hc
 have HAim := am hAim
 clear hAim
 have HP := am hp
 have HHB := am hhb
 have d1 : (C.f0 != 1) = false := by rw [h0]; rfl
 have d2 : (C.f0 == 1) = true := by rw [h0]; rfl
 have d4 : decide (C.f0 < 1) = false := decide_eq_false (by omega)
 have d5 : decide (C.f0 > 6) = false := decide_eq_false (by omega)
 clear h0 hp hhb
 subst hbf
 have l0 : ((C.f7.length : Int) == 0) = true := by rw [hnil]; rfl
 have l1 : (C.f7.length == 0) = true := by rw [hnil]; rfl
 clear hnil
 go_enter Tryz.func41, Tryz.ntmps41
 go_wp2_with fail
 have HS0 := am (DB.four (w := w) (A0 := A0) (n := ns.length) (c0 := c0) (C := C) (A := A) (c := c))
 generalize World.alloc _ _ = w1 at HS0 ⊢
 refine (HAim.out w1 (Kd.C_below HR.out HS0.out.s.b)).mono ?_
 rintro e w2 ⟨rfl, hb3⟩
 have HS2 := am (HS0.out.below hb3)
 clear hb3 HS0
 obtain ⟨xt, x0, x1, x2, x3, x4, x5, x6, x7⟩ := HS2.out.s.cells
 obtain ⟨z0, z1, z2, z3, z4, z5, z6, z7⟩ := HS2.out.zc
 obtain ⟨f0, f1, f2, f3, f4, f5, f6, f7⟩ := HS2.out.zf
 obtain ⟨ad, A3, c3, rfl, hx0, hx1, hx2, hx3, hx4, hx5, hl3, hi3⟩ := at_T95 (Kd.C_below HR.out HS2.out.s.b) (p : Int) (by omega) (by have := HP.out; omega)
 have e3 := eq_true (show (0 : Int) ≤ (p : Int) from by omega)
 have e4 := eq_true (show (p : Int) < (ns.length : Int) from by have := HP.out; omega)
 simp only [Int.toNat_natCast] at hx0 hx1 hx2 hx3 hx4 hx5
 generalize rd_T95 ns (p : Int) = nd at HHB hx0 hx1 hx2 hx3 hx4 hx5 hl3 hi3
 have HH := am (show ∀ W, Below w2.heap.size w2 W → Calls Tryz.prog 69 #[.agg #[.int .i64 nd.f0, .int .i64 nd.f1, .string nd.f2, .slice A3 nd.f3.length c3, .string nd.f4, .int .i64 nd.f5]] W fun e w' => e = .returned (.bool true) ∧ Below W.heap.size W w' from fun W hW => spec_l5Holds.calls _ _ _ A3 c3 _ _ _ true W (Kd.C_below hi3 hW) hl3 HHB.out)
 have HI3 := am (And.intro hi3 hl3)
 clear hi3 hl3
 go_wp2_with fail
 have HD2 := am (And.intro (Below.refl w2.heap.size w2) (Below.refl w2.heap.size w2).drew)
 have HST := am (show ∀ W, Below w2.heap.size w2 W → NodeS w ad p ns.length c0 nd A3 c3 A C.f7.length c W from fun W hW => ⟨pw_cell_below hW xt, pw_cell_below hW x7, pw_cell_below hW hx0, pw_cell_below hW hx1, pw_cell_below hW hx2, pw_cell_below hW hx3, pw_cell_below hW hx4, pw_cell_below hW hx5⟩)
 go_cut [84] (fun v84 wc => v84 = .bool true ∧ Aside0 (Below w2.heap.size w2 wc))
 case first =>
  clear z0 z1 z2 z3 z4 z5 z6 z7 f0 f1 f2 f3 f4 f5 f6 f7 x0 x1 x2 x3 x4 x5 x6
  refine start_ (n := 22) (S := NodeS w ad p ns.length c0 nd A3 c3 A C.f7.length c) (ds := []) #[false, false, false, false, false, false, false, false, false, false, false, false, false, false, false, false, false, false, false, false, false, false] (by kernel_rfl) rfl rfl (HST.out _ HD2.out.2) (fun hHeld => ?_)
  repeat ((first | refine pu 0 63 (v := ?_) (a' := ?_) rfl rfl rfl (by kernel_rfl) (fun _ _ _ h => h) (Or.inl ⟨by rfl, ?_⟩) ?_ ?_ | refine tk 1 64 (v := ?_) (a' := ?_) rfl rfl rfl (by kernel_rfl) (fun _ _ _ h => h) (Or.inl ⟨by rfl, ?_⟩) hHeld ?_ ?_ | refine pu 2 65 (v := ?_) (a' := ?_) rfl rfl rfl (by kernel_rfl) (fun _ _ _ h => h) (Or.inl ⟨by rfl, ?_⟩) ?_ ?_ | refine pu 3 66 (v := ?_) (a' := ?_) rfl rfl rfl (by kernel_rfl) (fun _ _ _ h => h) (Or.inl ⟨by rfl, ?_⟩) ?_ ?_ | refine tk 4 67 (v := ?_) (a' := ?_) rfl rfl rfl (by kernel_rfl) (fun _ _ _ h => h) (Or.inl ⟨by rfl, ?_⟩) hHeld ?_ ?_); rotate_left; (first | (rintro w' ⟨s0, s1, s2, s3, s4, s5, s6, s7⟩; go_simp; with_reducible rfl) | (intro w'; go_simp; with_reducible rfl)); rotate_left; (simp only [Act.put, List.setIfInBounds_toArray, List.set_cons_zero, List.set_cons_succ]; rfl))
  refine on1 5 68 rfl rfl rfl (by kernel_rfl) (by decide) (fun K hK => ?_)
  refine goes_ Tryz.func69 (by kernel_rfl) rfl #[.agg #[.int .i64 nd.f0, .int .i64 nd.f1, .string nd.f2, .slice A3 nd.f3.length c3, .string nd.f4, .int .i64 nd.f5]] (by rfl) rfl rfl (by (try simp only [List.map_toArray, List.map_cons, List.map_nil]); first | done | rfl) ?_
  refine (HH.out _ HD2.out.2).mono ?_
  rintro e w3 ⟨rfl, hb3⟩
  have HB3 := am (below_step HD2.out.2 hb3)
  refine ⟨_, rfl, ?_⟩
  refine hK.out _ _ (HST.out _ HB3.out) (fun hHeld => ?_)
  clear hK K hb3
  refine norm_ (a' := ?_) ?_ ?_
  rotate_left
  ·show Act.put _ (some 68) _ = _; simp only [Act.put, List.setIfInBounds_toArray, List.set_cons_zero, List.set_cons_succ]; rfl
  repeat ((first | refine pu 6 69 (v := ?_) (a' := ?_) rfl rfl rfl (by kernel_rfl) (fun _ _ _ h => h) (Or.inl ⟨by rfl, ?_⟩) ?_ ?_ | refine pu 7 70 (v := ?_) (a' := ?_) rfl rfl rfl (by kernel_rfl) (fun _ _ _ h => h) (Or.inl ⟨by rfl, ?_⟩) ?_ ?_ | refine pu 8 71 (v := ?_) (a' := ?_) rfl rfl rfl (by kernel_rfl) (fun _ _ _ h => h) (Or.inl ⟨by rfl, ?_⟩) ?_ ?_ | refine tk 9 72 (v := ?_) (a' := ?_) rfl rfl rfl (by kernel_rfl) (fun _ _ _ h => h) (Or.inl ⟨by rfl, ?_⟩) hHeld ?_ ?_ | refine pu 10 73 (v := ?_) (a' := ?_) rfl rfl rfl (by kernel_rfl) (fun _ _ _ h => h) (Or.inl ⟨by rfl, ?_⟩) ?_ ?_ | refine pu 11 74 (v := ?_) (a' := ?_) rfl rfl rfl (by kernel_rfl) (fun _ _ _ h => h) (Or.inl ⟨by rfl, ?_⟩) ?_ ?_ | refine pu 12 75 (v := ?_) (a' := ?_) rfl rfl rfl (by kernel_rfl) (fun _ _ _ h => h) (Or.inl ⟨by rfl, ?_⟩) ?_ ?_ | refine pu 13 76 (v := ?_) (a' := ?_) rfl rfl rfl (by kernel_rfl) (fun _ _ _ h => h) (Or.inl ⟨by rfl, ?_⟩) ?_ ?_); rotate_left; (first | (rintro w' ⟨s0, s1, s2, s3, s4, s5, s6, s7⟩; go_simp; with_reducible rfl) | (intro w'; go_simp; with_reducible rfl)); rotate_left; (simp only [Act.put, List.setIfInBounds_toArray, List.set_cons_zero, List.set_cons_succ]; rfl))
  repeat ((first | refine sk 14 77 (a' := ?_) rfl rfl rfl (by kernel_rfl) (fun _ _ _ h => h) (by rfl) ?_ ?_ | refine sk 15 78 (a' := ?_) rfl rfl rfl (by kernel_rfl) (fun _ _ _ h => h) (by rfl) ?_ ?_ | refine sk 16 79 (a' := ?_) rfl rfl rfl (by kernel_rfl) (fun _ _ _ h => h) (by rfl) ?_ ?_ | refine sk 17 80 (a' := ?_) rfl rfl rfl (by kernel_rfl) (fun _ _ _ h => h) (by rfl) ?_ ?_ | refine sk 18 81 (a' := ?_) rfl rfl rfl (by kernel_rfl) (fun _ _ _ h => h) (by rfl) ?_ ?_ | refine sk 19 82 (a' := ?_) rfl rfl rfl (by kernel_rfl) (fun _ _ _ h => h) (by rfl) ?_ ?_ | refine sk 20 83 (a' := ?_) rfl rfl rfl (by kernel_rfl) (fun _ _ _ h => h) (by rfl) ?_ ?_); rotate_left; (simp only [Act.put, List.setIfInBounds_toArray, List.set_cons_zero, List.set_cons_succ]; rfl))
  repeat ((first | refine pu 21 84 (v := ?_) (a' := ?_) rfl rfl rfl (by kernel_rfl) (fun _ _ _ h => h) (Or.inl ⟨by rfl, ?_⟩) ?_ ?_); rotate_left; (intro w'; go_simp; with_reducible rfl); rotate_left; (simp only [Act.put, List.setIfInBounds_toArray, List.set_cons_zero, List.set_cons_succ]; rfl))
  refine done_ (by kernel_rfl) ?_
  all_goals
   go_wp2
   go_meet
   case rel => exact ⟨rfl, ⟨by with_reducible first | exact HB4.out | exact HB3.out⟩⟩
 case rest =>
  obtain ⟨rfl, HF⟩ := hcut
  clear xt x0 x1 x2 x3 x4 x5 x6 x7 hx0 hx1 hx2 hx3 hx4 hx5
  have HS3 := am (HS2.out.below HF.out)
  clear HF HH HST HD2
  obtain ⟨xt, x0, x1, x2, x3, x4, x5, x6, x7⟩ := HS3.out.s.cells
  obtain ⟨z0, z1, z2, z3, z4, z5, z6, z7⟩ := HS3.out.zc
  obtain ⟨f0, f1, f2, f3, f4, f5, f6, f7⟩ := HS3.out.zf
  go_wp2
  clear z0 z1 z2 z3 z4 z5 z6 z7 xt x0 x1 x2 x3 x4 x5 x6 x7 f0 f1 f2 f3 f4 f5 f6 f7
  generalize hw9 : World.setCell _ _ _ = w9
  obtain ⟨h1, h2, h3, h4⟩ := HS3.out.set (R := zC) (Ar := none) (cr := 0) hw9.symm
  obtain ⟨y0, y1, y2, y3, y4, y5, y6, y7⟩ := cells8t h1
  have hut := Tryz.underlying33
  have HZ := am h4
  clear h1 h2 h3 h4 hw9
  refine bodyPost_ret (v := .tuple #[.slice (some ⟨w.heap.size + 1 + 1 + 1, 0, none⟩) 0 0, chv zC none 0, .int .i64 3]) (by simp [results, Tryz.results41, go_sem, y0, y1, y2, y3, y4, y5, y6, y7, hut]) rfl (show DidEnd _ _ _ _ _ _ from ?_)
  exact ⟨_, 0, none, 0, rfl, none_reads _ _, Nat.le_refl _, none_reads _ _, Nat.le_refl _, HZ.out⟩
end Go.Proofs.YthjgohbkpjhkeaaGreatDoor.Impl
