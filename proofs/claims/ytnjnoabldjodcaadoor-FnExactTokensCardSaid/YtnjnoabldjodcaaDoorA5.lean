/- Part 5 of the proof: PtE, PtG. -/
import Derived.Test.YtnjnoabldjodcaaDoorA1
import Derived.Test.YtnjnoabldjodcaaDoorA4
namespace Go.Proofs.YtnjnoabldjodcaaDoor.PFnExactTokens
open Go.RowKit Go.Proofs.YtnjnoabldjodcaaDoorW.PrintWords Go.Proofs.YtnjnoabldjodcaaDoorW.PrintLast Go.Proofs.YtnjnoabldjodcaaDoorW.PrintMore
attribute [local go_sem] max2_int min2_int max_two min_two max_three min_three max_four min_four
set_option linter.unusedVariables false
set_option linter.unusedSimpArgs false
def spec_l2Opens.f (a0 : ByteArray) (a1 : Int) : Option (Bool) := if (wrap64 (a1 + 1)) ≥ (a0.size : Int) then (some false) else (if 0 ≤ (wrap64 (a1 + 1)) then (if (wrap64 (a1 + 1)) < (a0.size : Int) then ((spec_l1Letter.f (bt a0 (wrap64 (a1 + 1)))).bind fun t208 => (if t208 = true then (some true) else (if (bt a0 (wrap64 (a1 + 1))) = 33 then (some true) else (if (bt a0 (wrap64 (a1 + 1))) = 63 then (some true) else (if (bt a0 (wrap64 (a1 + 1))) = 47 then (some (decide ((wrap64 (a1 + 2)) < (a0.size : Int)))) else (some false)))))) else (none)) else (none))
set_option maxHeartbeats 8000000 in
set_option maxRecDepth 100000 in
theorem spec_l2Opens.calls (a0 : ByteArray) (a1 : Int) (r : Bool) (w : World) (h : spec_l2Opens.f a0 a1 = some r) :
    Calls Tryd.prog 13 #[.string a0, .int .i64 a1] w fun e w' => e = .returned (.bool r) ∧ Drawn0 w w' := by
  have H := h
  clear h
  unfold spec_l2Opens.f at H
  by_cases c3 : (wrap64 (a1 + 1)) ≥ (a0.size : Int)
  · rw [if_pos c3] at H
    have c3b0 : decide ((a0.size : Int) ≤ (wrap64 (a1 + 1))) = true := decide_eq_true c3
    clear c3
    obtain rfl := Option.some.inj H
    go_enter Tryd.func13, Tryd.ntmps13
    go_wp2
    go_ret
    exact ⟨rfl, by repeat (exact Drawn0.refl _)⟩
  · rw [if_neg c3] at H
    have c3b0 : decide ((a0.size : Int) ≤ (wrap64 (a1 + 1))) = false := decide_eq_false c3
    clear c3
    obtain ⟨ji4, hji4⟩ : ∃ j_ : Int, (wrap64 (a1 + 1)) = j_ := ⟨_, rfl⟩
    rw [hji4] at H
    (try rw [hji4] at c3b0)
    have hji4w : (IntKind.i64.wrap (a1 + 1)) = ji4 := (i64_w _).trans hji4
    obtain ⟨c5b0, H⟩ := ifn1 H
    obtain ⟨c6b0, H⟩ := ifn1 H
    obtain ⟨t208, A8, H⟩ := bnd H
    obtain rfl | rfl := boo t208
    · rw [if_pos rfl] at H
      obtain rfl := Option.some.inj H
      have p7 : (0 ≤ ((ji4) : Int)) = True := dt (by with_reducible assumption)
      have q7 : ((ji4) < (a0.size : Int)) = True := dt (by with_reducible assumption)
      have hx7 := bt_at a0 (ji4)
      go_enter Tryd.func13, Tryd.ntmps13
      go_wp2_with (((with_reducible refine gate_callee (f := 15) rfl ?_); refine goesL_ (some 16) rfl rfl Tryd.func15 (by kernel_rfl) rfl #[.int .u8 (bt a0 (ji4))] rfl (by simp only [List.map_toArray, List.map_cons, List.map_nil]; rfl) ?_; (with_reducible refine (spec_l1Letter.calls (bt a0 (ji4)) true _ A8.out).mono ?_); rintro e w' ⟨rfl, ⟨nd, rfl⟩⟩; refine ⟨_, rfl, ?_⟩))
      go_ret
      exact ⟨rfl, by repeat (first | exact Drawn0.refl _ | apply Drawn0.step)⟩
    · rw [if_neg nft] at H
      by_cases c10 : (bt a0 (ji4)) = 33
      · rw [if_pos c10] at H
        have c10b0 : ((bt a0 (ji4)) == 33) = true := beq_iff_eq.mpr c10
        have c10b1 : ((bt a0 (ji4)) != 33) = false := bne_eq_false_iff_eq.mpr c10
        clear c10
        obtain rfl := Option.some.inj H
        have p7 : (0 ≤ ((ji4) : Int)) = True := dt (by with_reducible assumption)
        have q7 : ((ji4) < (a0.size : Int)) = True := dt (by with_reducible assumption)
        have hx7 := bt_at a0 (ji4)
        go_enter Tryd.func13, Tryd.ntmps13
        go_wp2_with (((with_reducible refine gate_callee (f := 15) rfl ?_); refine goesL_ (some 16) rfl rfl Tryd.func15 (by kernel_rfl) rfl #[.int .u8 (bt a0 (ji4))] rfl (by simp only [List.map_toArray, List.map_cons, List.map_nil]; rfl) ?_; (with_reducible refine (spec_l1Letter.calls (bt a0 (ji4)) false _ A8.out).mono ?_); rintro e w' ⟨rfl, ⟨nd, rfl⟩⟩; refine ⟨_, rfl, ?_⟩))
        go_ret
        exact ⟨rfl, by repeat (first | exact Drawn0.refl _ | apply Drawn0.step)⟩
      · rw [if_neg c10] at H
        have c10b0 : ((bt a0 (ji4)) == 33) = false := beq_eq_false_iff_ne.mpr c10
        have c10b1 : ((bt a0 (ji4)) != 33) = true := bne_iff_ne.mpr c10
        by_cases c11 : (bt a0 (ji4)) = 63
        · rw [if_pos c11] at H
          have c11b0 : ((bt a0 (ji4)) == 63) = true := beq_iff_eq.mpr c11
          have c11b1 : ((bt a0 (ji4)) != 63) = false := bne_eq_false_iff_eq.mpr c11
          clear c11
          obtain rfl := Option.some.inj H
          have p7 : (0 ≤ ((ji4) : Int)) = True := dt (by with_reducible assumption)
          have q7 : ((ji4) < (a0.size : Int)) = True := dt (by with_reducible assumption)
          have hx7 := bt_at a0 (ji4)
          go_enter Tryd.func13, Tryd.ntmps13
          go_wp2_with (((with_reducible refine gate_callee (f := 15) rfl ?_); refine goesL_ (some 16) rfl rfl Tryd.func15 (by kernel_rfl) rfl #[.int .u8 (bt a0 (ji4))] rfl (by simp only [List.map_toArray, List.map_cons, List.map_nil]; rfl) ?_; (with_reducible refine (spec_l1Letter.calls (bt a0 (ji4)) false _ A8.out).mono ?_); rintro e w' ⟨rfl, ⟨nd, rfl⟩⟩; refine ⟨_, rfl, ?_⟩))
          go_ret
          exact ⟨rfl, by repeat (first | exact Drawn0.refl _ | apply Drawn0.step)⟩
        · rw [if_neg c11] at H
          have c11b0 : ((bt a0 (ji4)) == 63) = false := beq_eq_false_iff_ne.mpr c11
          have c11b1 : ((bt a0 (ji4)) != 63) = true := bne_iff_ne.mpr c11
          by_cases c12 : (bt a0 (ji4)) = 47
          · rw [if_pos c12] at H
            have c12b0 : ((bt a0 (ji4)) == 47) = true := beq_iff_eq.mpr c12
            have c12b1 : ((bt a0 (ji4)) != 47) = false := bne_eq_false_iff_eq.mpr c12
            clear c12
            obtain rfl := Option.some.inj H
            have p7 : (0 ≤ ((ji4) : Int)) = True := dt (by with_reducible assumption)
            have q7 : ((ji4) < (a0.size : Int)) = True := dt (by with_reducible assumption)
            have hx7 := bt_at a0 (ji4)
            go_enter Tryd.func13, Tryd.ntmps13
            go_wp2_with (((with_reducible refine gate_callee (f := 15) rfl ?_); refine goesL_ (some 16) rfl rfl Tryd.func15 (by kernel_rfl) rfl #[.int .u8 (bt a0 (ji4))] rfl (by simp only [List.map_toArray, List.map_cons, List.map_nil]; rfl) ?_; (with_reducible refine (spec_l1Letter.calls (bt a0 (ji4)) false _ A8.out).mono ?_); rintro e w' ⟨rfl, ⟨nd, rfl⟩⟩; refine ⟨_, rfl, ?_⟩))
            go_ret
            exact ⟨rfl, by repeat (first | exact Drawn0.refl _ | apply Drawn0.step)⟩
          · rw [if_neg c12] at H
            have c12b0 : ((bt a0 (ji4)) == 47) = false := beq_eq_false_iff_ne.mpr c12
            have c12b1 : ((bt a0 (ji4)) != 47) = true := bne_iff_ne.mpr c12
            obtain rfl := Option.some.inj H
            have p7 : (0 ≤ ((ji4) : Int)) = True := dt (by with_reducible assumption)
            have q7 : ((ji4) < (a0.size : Int)) = True := dt (by with_reducible assumption)
            have hx7 := bt_at a0 (ji4)
            go_enter Tryd.func13, Tryd.ntmps13
            go_wp2_with (((with_reducible refine gate_callee (f := 15) rfl ?_); refine goesL_ (some 16) rfl rfl Tryd.func15 (by kernel_rfl) rfl #[.int .u8 (bt a0 (ji4))] rfl (by simp only [List.map_toArray, List.map_cons, List.map_nil]; rfl) ?_; (with_reducible refine (spec_l1Letter.calls (bt a0 (ji4)) false _ A8.out).mono ?_); rintro e w' ⟨rfl, ⟨nd, rfl⟩⟩; refine ⟨_, rfl, ?_⟩))
            go_ret
            exact ⟨rfl, by repeat (first | exact Drawn0.refl _ | apply Drawn0.step)⟩
def spec_l2Comment.l0 : Nat → ByteArray → Int → Int → Option (ByteArray × Int)
  | 0, _, _, _ => none
  | k + 1, x0, x1, x6 => if x6 < (x0.size : Int) then ((spec_l2Stands.f x0 x6 (⟨#[45, 45, 62]⟩ : ByteArray)).bind fun t211 => (if t211 = true then (if 0 ≤ x1 then (if x1 ≤ x6 then (if x6 ≤ (x0.size : Int) then (some (x0.extract (x1 : Int).toNat (x6 : Int).toNat, wrap64 (x6 + 3))) else (none)) else (none)) else (none)) else ((spec_l2Stands.f x0 x6 (⟨#[45, 45, 33, 62]⟩ : ByteArray)).bind fun t212 => (if t212 = true then (if 0 ≤ x1 then (if x1 ≤ x6 then (if x6 ≤ (x0.size : Int) then (some (x0.extract (x1 : Int).toNat (x6 : Int).toNat, wrap64 (x6 + 4))) else (none)) else (none)) else (none)) else (spec_l2Comment.l0 k x0 x1 (wrap64 (x6 + 1))))))) else (if 0 ≤ x1 then (if x1 ≤ (x0.size : Int) then (some (x0.extract (x1 : Int).toNat x0.size, (x0.size : Int))) else (none)) else (none))
def spec_l2Comment.f (k : Nat) (a0 : ByteArray) (a1 : Int) : Option (ByteArray × Int) := (spec_l2Stands.f a0 a1 (⟨#[62]⟩ : ByteArray)).bind fun t209 => (if t209 = true then (some ((⟨#[]⟩ : ByteArray), wrap64 (a1 + 1))) else ((spec_l2Stands.f a0 a1 (⟨#[45, 62]⟩ : ByteArray)).bind fun t210 => (if t210 = true then (some ((⟨#[]⟩ : ByteArray), wrap64 (a1 + 2))) else (spec_l2Comment.l0 k a0 a1 a1))))
theorem spec_l2Comment.mono_l : ∀ k, (∀ y0 y1 y2, LeO (spec_l2Comment.l0 k y0 y1 y2) (spec_l2Comment.l0 (k + 1) y0 y1 y2))
  | 0 => fun _ _ _ r h => by simp [spec_l2Comment.l0] at h
  | k + 1 => by
    have ih0 := spec_l2Comment.mono_l k
    · intro y0 y1 y2
      unfold spec_l2Comment.l0
      repeat' first
      | (with_reducible exact ih0 _ _ _)
      | (with_reducible exact LeO.refl _)
      | (with_reducible exact LeO.none _)
      | (with_reducible refine LeO.ite ?_ ?_)
      | (with_reducible refine LeO.bind ?_ (fun _ => ?_))
      | exact ih0 _ _ _
      | exact LeO.none _
      | refine LeO.ite ?_ ?_
      | refine LeO.bind ?_ (fun _ => ?_)
theorem spec_l2Comment.mono : ∀ a0 a1 k, LeO (spec_l2Comment.f k a0 a1) (spec_l2Comment.f (k + 1) a0 a1) := by
  intro a0 a1 k
  have ih0 := spec_l2Comment.mono_l k
  unfold spec_l2Comment.f
  repeat' first
      | (with_reducible exact ih0 _ _ _)
      | (with_reducible exact LeO.refl _)
      | (with_reducible exact LeO.none _)
      | (with_reducible refine LeO.ite ?_ ?_)
      | (with_reducible refine LeO.bind ?_ (fun _ => ?_))
      | exact ih0 _ _ _
      | exact LeO.none _
      | refine LeO.ite ?_ ?_
      | refine LeO.bind ?_ (fun _ => ?_)
set_option maxHeartbeats 8000000 in
set_option maxRecDepth 100000 in
theorem spec_l2Comment.calls (k : Nat) (a0 : ByteArray) (a1 : Int) (r1 : ByteArray) (r2 : Int) (w : World) (h : spec_l2Comment.f k a0 a1 = some (r1, r2)) :
    Calls Tryd.prog 29 #[.string a0, .int .i64 a1] w fun e w' => e = .returned (.tuple #[.string r1, .int .i64 r2]) ∧ Drawn0 w w' := by
  have H := h
  clear h
  unfold spec_l2Comment.f at H
  obtain ⟨t209, A3, H⟩ := bnd H
  obtain rfl | rfl := boo t209
  · rw [if_pos rfl] at H
    simp only [Option.some.injEq, Prod.mk.injEq] at H
    obtain ⟨rfl, rfl⟩ := H
    go_enter Tryd.func29, Tryd.ntmps29
    go_wp2_with (((with_reducible refine gate_callee (f := 14) rfl ?_); refine goesL_ (some 9) rfl rfl Tryd.func14 (by kernel_rfl) rfl #[.string a0, .int .i64 a1, .string (⟨#[62]⟩ : ByteArray)] rfl (by simp only [List.map_toArray, List.map_cons, List.map_nil]; rfl) ?_; (with_reducible refine (spec_l2Stands.calls a0 a1 (⟨#[62]⟩ : ByteArray) true _ A3.out).mono ?_); rintro e w' ⟨rfl, ⟨nd, rfl⟩⟩; refine ⟨_, rfl, ?_⟩))
    go_ret2
    exact ⟨rfl, by repeat (first | exact Drawn0.refl _ | apply Drawn0.step)⟩
  · rw [if_neg nft] at H
    obtain ⟨t210, A5, H⟩ := bnd H
    obtain rfl | rfl := boo t210
    · rw [if_pos rfl] at H
      simp only [Option.some.injEq, Prod.mk.injEq] at H
      obtain ⟨rfl, rfl⟩ := H
      go_enter Tryd.func29, Tryd.ntmps29
      go_wp2_with (first | ((with_reducible refine gate_callee (f := 14) rfl ?_); refine goesL_ (some 9) rfl rfl Tryd.func14 (by kernel_rfl) rfl #[.string a0, .int .i64 a1, .string (⟨#[62]⟩ : ByteArray)] rfl (by simp only [List.map_toArray, List.map_cons, List.map_nil]; rfl) ?_; (with_reducible refine (spec_l2Stands.calls a0 a1 (⟨#[62]⟩ : ByteArray) false _ A3.out).mono ?_); rintro e w' ⟨rfl, ⟨nd, rfl⟩⟩; refine ⟨_, rfl, ?_⟩) | ((with_reducible refine gate_callee (f := 14) rfl ?_); refine goesL_ (some 14) rfl rfl Tryd.func14 (by kernel_rfl) rfl #[.string a0, .int .i64 a1, .string (⟨#[45, 62]⟩ : ByteArray)] rfl (by simp only [List.map_toArray, List.map_cons, List.map_nil]; rfl) ?_; (with_reducible refine (spec_l2Stands.calls a0 a1 (⟨#[45, 62]⟩ : ByteArray) true _ A5.out).mono ?_); rintro e w' ⟨rfl, ⟨nd, rfl⟩⟩; refine ⟨_, rfl, ?_⟩))
      go_ret2
      exact ⟨rfl, by repeat (first | exact Drawn0.refl _ | apply Drawn0.step)⟩
    · rw [if_neg nft] at H
      have H' := am H
      clear H
      go_enter Tryd.func29, Tryd.ntmps29
      go_wp2_with (first | ((with_reducible refine gate_callee (f := 14) rfl ?_); refine goesL_ (some 9) rfl rfl Tryd.func14 (by kernel_rfl) rfl #[.string a0, .int .i64 a1, .string (⟨#[62]⟩ : ByteArray)] rfl (by simp only [List.map_toArray, List.map_cons, List.map_nil]; rfl) ?_; (with_reducible refine (spec_l2Stands.calls a0 a1 (⟨#[62]⟩ : ByteArray) false _ A3.out).mono ?_); rintro e w' ⟨rfl, ⟨nd, rfl⟩⟩; refine ⟨_, rfl, ?_⟩) | ((with_reducible refine gate_callee (f := 14) rfl ?_); refine goesL_ (some 14) rfl rfl Tryd.func14 (by kernel_rfl) rfl #[.string a0, .int .i64 a1, .string (⟨#[45, 62]⟩ : ByteArray)] rfl (by simp only [List.map_toArray, List.map_cons, List.map_nil]; rfl) ?_; (with_reducible refine (spec_l2Stands.calls a0 a1 (⟨#[45, 62]⟩ : ByteArray) false _ A5.out).mono ?_); rintro e w' ⟨rfl, ⟨nd, rfl⟩⟩; refine ⟨_, rfl, ?_⟩))
      go_loopg [6] k (fun kq v6 w' => ∃ (x6_1 : Int), v6 = .int .i64 x6_1 ∧ Aside0 (spec_l2Comment.l0 kq a0 a1 x6_1 = some (r1, r2)) ∧ Aside0 (kq ≤ k) ∧ Drawn0 w w')
      case atStart => exact ⟨(a1), rfl, H', ⟨Nat.le_refl _⟩, by repeat (first | exact Drawn0.refl _ | apply Drawn0.step)⟩
      case round =>
        clear H'
        obtain ⟨x6_1, rfl, HA, HK1, ⟨m1, rfl⟩⟩ := hrel
        cases gk with
        | zero => exact absurd HA.out (by simp [spec_l2Comment.l0])
        | succ k1 =>
          have H := HA.out
          clear HA
          simp only [spec_l2Comment.l0] at H
          by_cases c7 : x6_1 < (a0.size : Int)
          · rw [if_pos c7] at H
            have c7b0 : decide (x6_1 < (a0.size : Int)) = true := decide_eq_true c7
            clear c7
            obtain ⟨t211, A8, H⟩ := bnd H
            obtain rfl | rfl := boo t211
            · rw [if_pos rfl] at H
              obtain ⟨c10b0, c10b1, H⟩ := ifn2 H
              obtain ⟨c11b0, c11b1, H⟩ := ifn2 H
              obtain ⟨c12b0, c12b1, H⟩ := ifn2 H
              simp only [Option.some.injEq, Prod.mk.injEq] at H
              obtain ⟨rfl, rfl⟩ := H
              go_wp2_with (((with_reducible refine gate_callee (f := 14) rfl ?_); refine goesL_ (some 26) rfl rfl Tryd.func14 (by kernel_rfl) rfl #[.string a0, .int .i64 x6_1, .string (⟨#[45, 45, 62]⟩ : ByteArray)] rfl (by simp only [List.map_toArray, List.map_cons, List.map_nil]; rfl) ?_; (with_reducible refine (spec_l2Stands.calls a0 x6_1 (⟨#[45, 45, 62]⟩ : ByteArray) true _ A8.out).mono ?_); rintro e w' ⟨rfl, ⟨nd, rfl⟩⟩; refine ⟨_, rfl, ?_⟩))
              go_ret2
              exact ⟨rfl, by repeat (first | exact Drawn0.refl _ | apply Drawn0.step)⟩
            · rw [if_neg nft] at H
              obtain ⟨t212, A13, H⟩ := bnd H
              obtain rfl | rfl := boo t212
              · rw [if_pos rfl] at H
                obtain ⟨c15b0, c15b1, H⟩ := ifn2 H
                obtain ⟨c16b0, c16b1, H⟩ := ifn2 H
                obtain ⟨c17b0, c17b1, H⟩ := ifn2 H
                simp only [Option.some.injEq, Prod.mk.injEq] at H
                obtain ⟨rfl, rfl⟩ := H
                go_wp2_with (first | ((with_reducible refine gate_callee (f := 14) rfl ?_); refine goesL_ (some 26) rfl rfl Tryd.func14 (by kernel_rfl) rfl #[.string a0, .int .i64 x6_1, .string (⟨#[45, 45, 62]⟩ : ByteArray)] rfl (by simp only [List.map_toArray, List.map_cons, List.map_nil]; rfl) ?_; (with_reducible refine (spec_l2Stands.calls a0 x6_1 (⟨#[45, 45, 62]⟩ : ByteArray) false _ A8.out).mono ?_); rintro e w' ⟨rfl, ⟨nd, rfl⟩⟩; refine ⟨_, rfl, ?_⟩) | ((with_reducible refine gate_callee (f := 14) rfl ?_); refine goesL_ (some 35) rfl rfl Tryd.func14 (by kernel_rfl) rfl #[.string a0, .int .i64 x6_1, .string (⟨#[45, 45, 33, 62]⟩ : ByteArray)] rfl (by simp only [List.map_toArray, List.map_cons, List.map_nil]; rfl) ?_; (with_reducible refine (spec_l2Stands.calls a0 x6_1 (⟨#[45, 45, 33, 62]⟩ : ByteArray) true _ A13.out).mono ?_); rintro e w' ⟨rfl, ⟨nd, rfl⟩⟩; refine ⟨_, rfl, ?_⟩))
                go_ret2
                exact ⟨rfl, by repeat (first | exact Drawn0.refl _ | apply Drawn0.step)⟩
              · rw [if_neg nft] at H
                have H' := am H
                clear H
                go_wp2_with (first | ((with_reducible refine gate_callee (f := 14) rfl ?_); refine goesL_ (some 26) rfl rfl Tryd.func14 (by kernel_rfl) rfl #[.string a0, .int .i64 x6_1, .string (⟨#[45, 45, 62]⟩ : ByteArray)] rfl (by simp only [List.map_toArray, List.map_cons, List.map_nil]; rfl) ?_; (with_reducible refine (spec_l2Stands.calls a0 x6_1 (⟨#[45, 45, 62]⟩ : ByteArray) false _ A8.out).mono ?_); rintro e w' ⟨rfl, ⟨nd, rfl⟩⟩; refine ⟨_, rfl, ?_⟩) | ((with_reducible refine gate_callee (f := 14) rfl ?_); refine goesL_ (some 35) rfl rfl Tryd.func14 (by kernel_rfl) rfl #[.string a0, .int .i64 x6_1, .string (⟨#[45, 45, 33, 62]⟩ : ByteArray)] rfl (by simp only [List.map_toArray, List.map_cons, List.map_nil]; rfl) ?_; (with_reducible refine (spec_l2Stands.calls a0 x6_1 (⟨#[45, 45, 33, 62]⟩ : ByteArray) false _ A13.out).mono ?_); rintro e w' ⟨rfl, ⟨nd, rfl⟩⟩; refine ⟨_, rfl, ?_⟩))
                go_roundg k1
                case measure => have := HK1.out; omega
                case rel => exact ⟨(wrap64 (x6_1 + 1)), rfl, H', ⟨by have := HK1.out; omega⟩, by repeat (first | exact Drawn0.refl _ | apply Drawn0.step)⟩
          · rw [if_neg c7] at H
            have c7b0 : decide (x6_1 < (a0.size : Int)) = false := decide_eq_false c7
            clear c7
            obtain ⟨c18b0, c18b1, H⟩ := ifn2 H
            obtain ⟨c19b0, c19b1, H⟩ := ifn2 H
            simp only [Option.some.injEq, Prod.mk.injEq] at H
            obtain ⟨rfl, rfl⟩ := H
            go_wp2
            go_ret2
            exact ⟨rfl, by repeat (first | exact Drawn0.refl _ | apply Drawn0.step)⟩
def spec_l2Find.l0 : Nat → ByteArray → Int → Int → Option (Int)
  | 0, _, _, _ => none
  | k + 1, x0, x1, x2 => if x1 < (x0.size : Int) then (if 0 ≤ x1 then (if (bt x0 x1) = x2 then (some x1) else (spec_l2Find.l0 k x0 (wrap64 (x1 + 1)) x2)) else (none)) else (some x1)
def spec_l2Find.f (k : Nat) (a0 : ByteArray) (a1 : Int) (a2 : Int) : Option (Int) := spec_l2Find.l0 k a0 a1 a2
theorem spec_l2Find.mono_l : ∀ k, (∀ y0 y1 y2, LeO (spec_l2Find.l0 k y0 y1 y2) (spec_l2Find.l0 (k + 1) y0 y1 y2))
  | 0 => fun _ _ _ r h => by simp [spec_l2Find.l0] at h
  | k + 1 => by
    have ih0 := spec_l2Find.mono_l k
    · intro y0 y1 y2
      unfold spec_l2Find.l0
      repeat' first
      | (with_reducible exact ih0 _ _ _)
      | (with_reducible exact LeO.refl _)
      | (with_reducible exact LeO.none _)
      | (with_reducible refine LeO.ite ?_ ?_)
      | (with_reducible refine LeO.bind ?_ (fun _ => ?_))
      | exact ih0 _ _ _
      | exact LeO.none _
      | refine LeO.ite ?_ ?_
      | refine LeO.bind ?_ (fun _ => ?_)
theorem spec_l2Find.mono : ∀ a0 a1 a2 k, LeO (spec_l2Find.f k a0 a1 a2) (spec_l2Find.f (k + 1) a0 a1 a2) := by
  intro a0 a1 a2 k
  have ih0 := spec_l2Find.mono_l k
  unfold spec_l2Find.f
  repeat' first
      | (with_reducible exact ih0 _ _ _)
      | (with_reducible exact LeO.refl _)
      | (with_reducible exact LeO.none _)
      | (with_reducible refine LeO.ite ?_ ?_)
      | (with_reducible refine LeO.bind ?_ (fun _ => ?_))
      | exact ih0 _ _ _
      | exact LeO.none _
      | refine LeO.ite ?_ ?_
      | refine LeO.bind ?_ (fun _ => ?_)
set_option maxHeartbeats 8000000 in
set_option maxRecDepth 100000 in
theorem spec_l2Find.calls (k : Nat) (a0 : ByteArray) (a1 : Int) (a2 : Int) (r : Int) (w : World) (h : spec_l2Find.f k a0 a1 a2 = some r) :
    Calls Tryd.prog 30 #[.string a0, .int .i64 a1, .int .u8 a2] w fun e w' => e = .returned (.int .i64 r) ∧ Drawn0 w w' := by
  have H := h
  clear h
  unfold spec_l2Find.f at H
  have H' := am H
  clear H
  go_enter Tryd.func30, Tryd.ntmps30
  go_wp2
  go_loopg [1] k (fun kq v1 w' => ∃ (x1_1 : Int), v1 = .int .i64 x1_1 ∧ Aside0 (spec_l2Find.l0 kq a0 x1_1 a2 = some r) ∧ Aside0 (kq ≤ k) ∧ Drawn0 w w')
  case atStart => exact ⟨(a1), rfl, H', ⟨Nat.le_refl _⟩, by repeat (exact Drawn0.refl _)⟩
  case round =>
    clear H'
    obtain ⟨x1_1, rfl, HA, HK1, ⟨m1, rfl⟩⟩ := hrel
    cases gk with
    | zero => exact absurd HA.out (by simp [spec_l2Find.l0])
    | succ k1 =>
      have H := HA.out
      clear HA
      simp only [spec_l2Find.l0] at H
      by_cases c4 : x1_1 < (a0.size : Int)
      · rw [if_pos c4] at H
        have c4b0 : decide (x1_1 < (a0.size : Int)) = true := decide_eq_true c4
        clear c4
        obtain ⟨c5b0, H⟩ := ifn1 H
        by_cases c7 : (bt a0 x1_1) = a2
        · rw [if_pos c7] at H
          have c7b0 : ((bt a0 x1_1) == a2) = true := beq_iff_eq.mpr c7
          have c7b1 : ((bt a0 x1_1) != a2) = false := bne_eq_false_iff_eq.mpr c7
          clear c7
          obtain rfl := Option.some.inj H
          have p6 : (0 ≤ (x1_1 : Int)) = True := dt (by with_reducible assumption)
          have q6 : (x1_1 < (a0.size : Int)) = True := dt (by with_reducible assumption)
          have hx6 := bt_at a0 x1_1
          go_wp2
          go_ret
          exact ⟨rfl, by repeat (first | exact Drawn0.refl _ | apply Drawn0.step)⟩
        · rw [if_neg c7] at H
          have c7b0 : ((bt a0 x1_1) == a2) = false := beq_eq_false_iff_ne.mpr c7
          have c7b1 : ((bt a0 x1_1) != a2) = true := bne_iff_ne.mpr c7
          have H' := am H
          clear H
          have p6 : (0 ≤ (x1_1 : Int)) = True := dt (by with_reducible assumption)
          have q6 : (x1_1 < (a0.size : Int)) = True := dt (by with_reducible assumption)
          have hx6 := bt_at a0 x1_1
          go_wp2
          go_roundg k1
          case measure => have := HK1.out; omega
          case rel => exact ⟨(wrap64 (x1_1 + 1)), rfl, H', ⟨by have := HK1.out; omega⟩, by repeat (first | exact Drawn0.refl _ | apply Drawn0.step)⟩
      · rw [if_neg c4] at H
        have c4b0 : decide (x1_1 < (a0.size : Int)) = false := decide_eq_false c4
        clear c4
        obtain rfl := Option.some.inj H
        go_wp2
        go_ret
        exact ⟨rfl, by repeat (first | exact Drawn0.refl _ | apply Drawn0.step)⟩
def spec_l2Over.l0 : Nat → ByteArray → Int → Option (Int)
  | 0, _, _ => none
  | k + 1, x0, x1 => if x1 < (x0.size : Int) then (if 0 ≤ x1 then ((spec_l1White.f (bt x0 x1)).bind fun t213 => (if t213 = true then (spec_l2Over.l0 k x0 (wrap64 (x1 + 1))) else (some x1))) else (none)) else (some x1)
def spec_l2Over.f (k : Nat) (a0 : ByteArray) (a1 : Int) : Option (Int) := spec_l2Over.l0 k a0 a1
theorem spec_l2Over.mono_l : ∀ k, (∀ y0 y1, LeO (spec_l2Over.l0 k y0 y1) (spec_l2Over.l0 (k + 1) y0 y1))
  | 0 => fun _ _ r h => by simp [spec_l2Over.l0] at h
  | k + 1 => by
    have ih0 := spec_l2Over.mono_l k
    · intro y0 y1
      unfold spec_l2Over.l0
      repeat' first
      | (with_reducible exact ih0 _ _)
      | (with_reducible exact LeO.refl _)
      | (with_reducible exact LeO.none _)
      | (with_reducible refine LeO.ite ?_ ?_)
      | (with_reducible refine LeO.bind ?_ (fun _ => ?_))
      | exact ih0 _ _
      | exact LeO.none _
      | refine LeO.ite ?_ ?_
      | refine LeO.bind ?_ (fun _ => ?_)
theorem spec_l2Over.mono : ∀ a0 a1 k, LeO (spec_l2Over.f k a0 a1) (spec_l2Over.f (k + 1) a0 a1) := by
  intro a0 a1 k
  have ih0 := spec_l2Over.mono_l k
  unfold spec_l2Over.f
  repeat' first
      | (with_reducible exact ih0 _ _)
      | (with_reducible exact LeO.refl _)
      | (with_reducible exact LeO.none _)
      | (with_reducible refine LeO.ite ?_ ?_)
      | (with_reducible refine LeO.bind ?_ (fun _ => ?_))
      | exact ih0 _ _
      | exact LeO.none _
      | refine LeO.ite ?_ ?_
      | refine LeO.bind ?_ (fun _ => ?_)
set_option maxHeartbeats 8000000 in
set_option maxRecDepth 100000 in
theorem spec_l2Over.calls (k : Nat) (a0 : ByteArray) (a1 : Int) (r : Int) (w : World) (h : spec_l2Over.f k a0 a1 = some r) :
    Calls Tryd.prog 31 #[.string a0, .int .i64 a1] w fun e w' => e = .returned (.int .i64 r) ∧ Drawn0 w w' := by
  have H := h
  clear h
  unfold spec_l2Over.f at H
  have H' := am H
  clear H
  go_enter Tryd.func31, Tryd.ntmps31
  go_wp2
  go_loopg [1] k (fun kq v1 w' => ∃ (x1_1 : Int), v1 = .int .i64 x1_1 ∧ Aside0 (spec_l2Over.l0 kq a0 x1_1 = some r) ∧ Aside0 (kq ≤ k) ∧ Drawn0 w w')
  case atStart => exact ⟨(a1), rfl, H', ⟨Nat.le_refl _⟩, by repeat (exact Drawn0.refl _)⟩
  case round =>
    clear H'
    obtain ⟨x1_1, rfl, HA, HK1, ⟨m1, rfl⟩⟩ := hrel
    cases gk with
    | zero => exact absurd HA.out (by simp [spec_l2Over.l0])
    | succ k1 =>
      have H := HA.out
      clear HA
      simp only [spec_l2Over.l0] at H
      by_cases c3 : x1_1 < (a0.size : Int)
      · rw [if_pos c3] at H
        have c3b0 : decide (x1_1 < (a0.size : Int)) = true := decide_eq_true c3
        clear c3
        obtain ⟨c4b0, H⟩ := ifn1 H
        obtain ⟨t213, A6, H⟩ := bnd H
        obtain rfl | rfl := boo t213
        · rw [if_pos rfl] at H
          have H' := am H
          clear H
          have p5 : (0 ≤ (x1_1 : Int)) = True := dt (by with_reducible assumption)
          have q5 : (x1_1 < (a0.size : Int)) = True := dt (by with_reducible assumption)
          have hx5 := bt_at a0 x1_1
          go_wp2_with ((go_at_call 54; (with_reducible refine (spec_l1White.calls (bt a0 x1_1) true _ A6.out).mono ?_); rintro e w' ⟨rfl, ⟨nd, rfl⟩⟩))
          go_roundg k1
          case measure => have := HK1.out; omega
          case rel => exact ⟨(wrap64 (x1_1 + 1)), rfl, H', ⟨by have := HK1.out; omega⟩, by repeat (first | exact Drawn0.refl _ | apply Drawn0.step)⟩
        · rw [if_neg nft] at H
          obtain rfl := Option.some.inj H
          have p5 : (0 ≤ (x1_1 : Int)) = True := dt (by with_reducible assumption)
          have q5 : (x1_1 < (a0.size : Int)) = True := dt (by with_reducible assumption)
          have hx5 := bt_at a0 x1_1
          go_wp2_with ((go_at_call 54; (with_reducible refine (spec_l1White.calls (bt a0 x1_1) false _ A6.out).mono ?_); rintro e w' ⟨rfl, ⟨nd, rfl⟩⟩))
          go_ret
          exact ⟨rfl, by repeat (first | exact Drawn0.refl _ | apply Drawn0.step)⟩
      · rw [if_neg c3] at H
        have c3b0 : decide (x1_1 < (a0.size : Int)) = false := decide_eq_false c3
        clear c3
        obtain rfl := Option.some.inj H
        go_wp2
        go_ret
        exact ⟨rfl, by repeat (first | exact Drawn0.refl _ | apply Drawn0.step)⟩
def spec_l2Until.l0 : Nat → ByteArray → Int → ByteArray → Option (Int)
  | 0, _, _, _ => none
  | k + 1, x0, x1, x2 => if x1 < (x0.size : Int) then (if 0 ≤ x1 then ((spec_l2Ends.f k (bt x0 x1) x2).bind fun t214 => (if t214 = true then (some x1) else (spec_l2Until.l0 k x0 (wrap64 (x1 + 1)) x2))) else (none)) else (some x1)
def spec_l2Until.f (k : Nat) (a0 : ByteArray) (a1 : Int) (a2 : ByteArray) : Option (Int) := spec_l2Until.l0 k a0 a1 a2
theorem spec_l2Until.mono_l : ∀ k, (∀ y0 y1 y2, LeO (spec_l2Until.l0 k y0 y1 y2) (spec_l2Until.l0 (k + 1) y0 y1 y2))
  | 0 => fun _ _ _ r h => by simp [spec_l2Until.l0] at h
  | k + 1 => by
    have ih0 := spec_l2Until.mono_l k
    · intro y0 y1 y2
      unfold spec_l2Until.l0
      repeat' first
      | (with_reducible exact ih0 _ _ _)
      | (with_reducible exact spec_l2Ends.mono _ _ _)
      | (with_reducible exact LeO.refl _)
      | (with_reducible exact LeO.none _)
      | (with_reducible refine LeO.ite ?_ ?_)
      | (with_reducible refine LeO.bind ?_ (fun _ => ?_))
      | exact ih0 _ _ _
      | exact spec_l2Ends.mono _ _ _
      | exact LeO.none _
      | refine LeO.ite ?_ ?_
      | refine LeO.bind ?_ (fun _ => ?_)
theorem spec_l2Until.mono : ∀ a0 a1 a2 k, LeO (spec_l2Until.f k a0 a1 a2) (spec_l2Until.f (k + 1) a0 a1 a2) := by
  intro a0 a1 a2 k
  have ih0 := spec_l2Until.mono_l k
  unfold spec_l2Until.f
  repeat' first
      | (with_reducible exact ih0 _ _ _)
      | (with_reducible exact spec_l2Ends.mono _ _ _)
      | (with_reducible exact LeO.refl _)
      | (with_reducible exact LeO.none _)
      | (with_reducible refine LeO.ite ?_ ?_)
      | (with_reducible refine LeO.bind ?_ (fun _ => ?_))
      | exact ih0 _ _ _
      | exact spec_l2Ends.mono _ _ _
      | exact LeO.none _
      | refine LeO.ite ?_ ?_
      | refine LeO.bind ?_ (fun _ => ?_)
set_option maxHeartbeats 8000000 in
set_option maxRecDepth 100000 in
theorem spec_l2Until.calls (k : Nat) (a0 : ByteArray) (a1 : Int) (a2 : ByteArray) (r : Int) (w : World) (h : spec_l2Until.f k a0 a1 a2 = some r) :
    Calls Tryd.prog 32 #[.string a0, .int .i64 a1, .string a2] w fun e w' => e = .returned (.int .i64 r) ∧ Drawn0 w w' := by
  have H := h
  clear h
  unfold spec_l2Until.f at H
  have H' := am H
  clear H
  go_enter Tryd.func32, Tryd.ntmps32
  go_wp2
  go_loopg [1] k (fun kq v1 w' => ∃ (x1_1 : Int), v1 = .int .i64 x1_1 ∧ Aside0 (spec_l2Until.l0 kq a0 x1_1 a2 = some r) ∧ Aside0 (kq ≤ k) ∧ Drawn0 w w')
  case atStart => exact ⟨(a1), rfl, H', ⟨Nat.le_refl _⟩, by repeat (exact Drawn0.refl _)⟩
  case round =>
    clear H'
    obtain ⟨x1_1, rfl, HA, HK1, ⟨m1, rfl⟩⟩ := hrel
    cases gk with
    | zero => exact absurd HA.out (by simp [spec_l2Until.l0])
    | succ k1 =>
      have H := HA.out
      clear HA
      simp only [spec_l2Until.l0] at H
      by_cases c4 : x1_1 < (a0.size : Int)
      · rw [if_pos c4] at H
        have c4b0 : decide (x1_1 < (a0.size : Int)) = true := decide_eq_true c4
        clear c4
        obtain ⟨c5b0, H⟩ := ifn1 H
        obtain ⟨t214, A7, H⟩ := bnd H
        obtain rfl | rfl := boo t214
        · rw [if_pos rfl] at H
          obtain rfl := Option.some.inj H
          have p6 : (0 ≤ (x1_1 : Int)) = True := dt (by with_reducible assumption)
          have q6 : (x1_1 < (a0.size : Int)) = True := dt (by with_reducible assumption)
          have hx6 := bt_at a0 x1_1
          go_wp2_with ((go_at_call 27; (with_reducible refine (spec_l2Ends.calls k1 (bt a0 x1_1) a2 true _ A7.out).mono ?_); rintro e w' ⟨rfl, ⟨nd, rfl⟩⟩))
          go_ret
          exact ⟨rfl, by repeat (first | exact Drawn0.refl _ | apply Drawn0.step)⟩
        · rw [if_neg nft] at H
          have H' := am H
          clear H
          have p6 : (0 ≤ (x1_1 : Int)) = True := dt (by with_reducible assumption)
          have q6 : (x1_1 < (a0.size : Int)) = True := dt (by with_reducible assumption)
          have hx6 := bt_at a0 x1_1
          go_wp2_with ((go_at_call 27; (with_reducible refine (spec_l2Ends.calls k1 (bt a0 x1_1) a2 false _ A7.out).mono ?_); rintro e w' ⟨rfl, ⟨nd, rfl⟩⟩))
          go_roundg k1
          case measure => have := HK1.out; omega
          case rel => exact ⟨(wrap64 (x1_1 + 1)), rfl, H', ⟨by have := HK1.out; omega⟩, by repeat (first | exact Drawn0.refl _ | apply Drawn0.step)⟩
      · rw [if_neg c4] at H
        have c4b0 : decide (x1_1 < (a0.size : Int)) = false := decide_eq_false c4
        clear c4
        obtain rfl := Option.some.inj H
        go_wp2
        go_ret
        exact ⟨rfl, by repeat (first | exact Drawn0.refl _ | apply Drawn0.step)⟩
def spec_l2Behind.f (a0 : Int) (a1 : ByteArray) : Option (Int) := if a0 < (a1.size : Int) then (some (wrap64 (a0 + 1))) else (some a0)
set_option maxHeartbeats 8000000 in
set_option maxRecDepth 100000 in
theorem spec_l2Behind.calls (a0 : Int) (a1 : ByteArray) (r : Int) (w : World) (h : spec_l2Behind.f a0 a1 = some r) :
    Calls Tryd.prog 33 #[.int .i64 a0, .string a1] w fun e w' => e = .returned (.int .i64 r) ∧ Drawn0 w w' := by
  have H := h
  clear h
  unfold spec_l2Behind.f at H
  by_cases c3 : a0 < (a1.size : Int)
  · rw [if_pos c3] at H
    have c3b0 : decide (a0 < (a1.size : Int)) = true := decide_eq_true c3
    clear c3
    obtain rfl := Option.some.inj H
    go_enter Tryd.func33, Tryd.ntmps33
    go_wp2
    go_ret
    exact ⟨rfl, by repeat (exact Drawn0.refl _)⟩
  · rw [if_neg c3] at H
    have c3b0 : decide (a0 < (a1.size : Int)) = false := decide_eq_false c3
    clear c3
    obtain rfl := Option.some.inj H
    go_enter Tryd.func33, Tryd.ntmps33
    go_wp2
    go_ret
    exact ⟨rfl, by repeat (exact Drawn0.refl _)⟩
end Go.Proofs.YtnjnoabldjodcaaDoor.PFnExactTokens
namespace Go.Proofs.YtnjnoabldjodcaaDoor.PFnExactTokens
open Go.RowKit Go.Proofs.YtnjnoabldjodcaaDoorW.PrintWords Go.Proofs.YtnjnoabldjodcaaDoorW.PrintLast Go.Proofs.YtnjnoabldjodcaaDoorW.PrintMore
attribute [local go_sem] max2_int min2_int max_two min_two max_three min_three max_four min_four
set_option linter.unusedVariables false
set_option linter.unusedSimpArgs false
mutual
def spec_l2Value.j0 : Nat → ByteArray → Int → Bool → Option (ByteArray × Int)
  | 0, _, _, _ => none
  | k + 1, x0, x1, x21 => if x21 = true then (if 0 ≤ x1 then (if x1 < (x0.size : Int) then ((spec_l2Find.f k x0 (wrap64 (x1 + 1)) (bt x0 x1)).bind fun t229 => (if t229 ≥ (x0.size : Int) then (some ((⟨#[]⟩ : ByteArray), (-1))) else (if 0 ≤ (wrap64 (x1 + 1)) then (if (wrap64 (x1 + 1)) ≤ t229 then (if t229 ≤ (x0.size : Int) then ((spec_l2Refs.f k (x0.extract ((wrap64 (x1 + 1)) : Int).toNat (t229 : Int).toNat) true).bind fun t230 => (some (t230, wrap64 (t229 + 1)))) else (none)) else (none)) else (none)))) else (none)) else (none)) else (spec_l2Value.l0 k x0 x1 x1)
def spec_l2Value.l0 : Nat → ByteArray → Int → Int → Option (ByteArray × Int)
  | 0, _, _, _ => none
  | k + 1, x0, x1, x7 => if x7 < (x0.size : Int) then (if 0 ≤ x7 then (if (bt x0 x7) = 62 then (if 0 ≤ x1 then (if x1 ≤ x7 then (if x7 ≤ (x0.size : Int) then ((spec_l2Refs.f k (x0.extract (x1 : Int).toNat (x7 : Int).toNat) true).bind fun t231 => (some (t231, x7))) else (none)) else (none)) else (none)) else ((spec_l1White.f (bt x0 x7)).bind fun t232 => (if t232 = true then (if 0 ≤ x1 then (if x1 ≤ x7 then (if x7 ≤ (x0.size : Int) then ((spec_l2Refs.f k (x0.extract (x1 : Int).toNat (x7 : Int).toNat) true).bind fun t233 => (some (t233, x7))) else (none)) else (none)) else (none)) else (spec_l2Value.l0 k x0 x1 (wrap64 (x7 + 1)))))) else (none)) else (if 0 ≤ x1 then (if x1 ≤ x7 then (if x7 ≤ (x0.size : Int) then ((spec_l2Refs.f k (x0.extract (x1 : Int).toNat (x7 : Int).toNat) true).bind fun t234 => (some (t234, x7))) else (none)) else (none)) else (none))
end
def spec_l2Value.f (k : Nat) (a0 : ByteArray) (a1 : Int) : Option (ByteArray × Int) := if a1 ≥ (a0.size : Int) then (some ((⟨#[]⟩ : ByteArray), (-1))) else (if 0 ≤ a1 then (if a1 < (a0.size : Int) then (if (bt a0 a1) = 34 then (spec_l2Value.j0 k a0 a1 true) else (spec_l2Value.j0 k a0 a1 ((bt a0 a1) == 39))) else (none)) else (none))
theorem spec_l2Value.mono_l : ∀ k, (∀ y0 y1 y2, LeO (spec_l2Value.j0 k y0 y1 y2) (spec_l2Value.j0 (k + 1) y0 y1 y2)) ∧ (∀ y0 y1 y2, LeO (spec_l2Value.l0 k y0 y1 y2) (spec_l2Value.l0 (k + 1) y0 y1 y2))
  | 0 => ⟨fun _ _ _ r h => by simp [spec_l2Value.j0] at h, fun _ _ _ r h => by simp [spec_l2Value.l0] at h⟩
  | k + 1 => by
    obtain ⟨ih0, ih1⟩ := spec_l2Value.mono_l k
    refine ⟨?_, ?_⟩
    · intro y0 y1 y2
      unfold spec_l2Value.j0
      repeat' first
      | (with_reducible exact ih0 _ _ _)
      | (with_reducible exact ih1 _ _ _)
      | (with_reducible exact spec_l2Find.mono _ _ _ _)
      | (with_reducible exact spec_l2Refs.mono _ _ _)
      | (with_reducible exact LeO.refl _)
      | (with_reducible exact LeO.none _)
      | (with_reducible refine LeO.ite ?_ ?_)
      | (with_reducible refine LeO.bind ?_ (fun _ => ?_))
      | exact ih0 _ _ _
      | exact ih1 _ _ _
      | exact spec_l2Find.mono _ _ _ _
      | exact spec_l2Refs.mono _ _ _
      | exact LeO.none _
      | refine LeO.ite ?_ ?_
      | refine LeO.bind ?_ (fun _ => ?_)
    · intro y0 y1 y2
      unfold spec_l2Value.l0
      repeat' first
      | (with_reducible exact ih0 _ _ _)
      | (with_reducible exact ih1 _ _ _)
      | (with_reducible exact spec_l2Find.mono _ _ _ _)
      | (with_reducible exact spec_l2Refs.mono _ _ _)
      | (with_reducible exact LeO.refl _)
      | (with_reducible exact LeO.none _)
      | (with_reducible refine LeO.ite ?_ ?_)
      | (with_reducible refine LeO.bind ?_ (fun _ => ?_))
      | exact ih0 _ _ _
      | exact ih1 _ _ _
      | exact spec_l2Find.mono _ _ _ _
      | exact spec_l2Refs.mono _ _ _
      | exact LeO.none _
      | refine LeO.ite ?_ ?_
      | refine LeO.bind ?_ (fun _ => ?_)
theorem spec_l2Value.mono : ∀ a0 a1 k, LeO (spec_l2Value.f k a0 a1) (spec_l2Value.f (k + 1) a0 a1) := by
  intro a0 a1 k
  obtain ⟨ih0, ih1⟩ := spec_l2Value.mono_l k
  unfold spec_l2Value.f
  repeat' first
      | (with_reducible exact ih0 _ _ _)
      | (with_reducible exact ih1 _ _ _)
      | (with_reducible exact spec_l2Find.mono _ _ _ _)
      | (with_reducible exact spec_l2Refs.mono _ _ _)
      | (with_reducible exact LeO.refl _)
      | (with_reducible exact LeO.none _)
      | (with_reducible refine LeO.ite ?_ ?_)
      | (with_reducible refine LeO.bind ?_ (fun _ => ?_))
      | exact ih0 _ _ _
      | exact ih1 _ _ _
      | exact spec_l2Find.mono _ _ _ _
      | exact spec_l2Refs.mono _ _ _
      | exact LeO.none _
      | refine LeO.ite ?_ ?_
      | refine LeO.bind ?_ (fun _ => ?_)
set_option maxHeartbeats 8000000 in
set_option maxRecDepth 100000 in
theorem spec_l2Value.calls (k : Nat) (a0 : ByteArray) (a1 : Int) (r1 : ByteArray) (r2 : Int) (w : World) (h : spec_l2Value.f k a0 a1 = some (r1, r2)) :
    Calls Tryd.prog 34 #[.string a0, .int .i64 a1] w fun e w' => e = .returned (.tuple #[.string r1, .int .i64 r2]) ∧ Below w.heap.size w w' := by
  have HB := am (Below.refl w.heap.size w)
  have H := h
  clear h
  unfold spec_l2Value.f at H
  by_cases c3 : a1 ≥ (a0.size : Int)
  · rw [if_pos c3] at H
    have c3b0 : decide ((a0.size : Int) ≤ a1) = true := decide_eq_true c3
    clear c3
    simp only [Option.some.injEq, Prod.mk.injEq] at H
    obtain ⟨rfl, rfl⟩ := H
    go_enter Tryd.func34, Tryd.ntmps34
    go_wp2
    go_ret2
    exact ⟨rfl, by exact HB.out⟩
  · rw [if_neg c3] at H
    have c3b0 : decide ((a0.size : Int) ≤ a1) = false := decide_eq_false c3
    clear c3
    have HC4 := am H
    clear H
    go_enter Tryd.func34, Tryd.ntmps34
    go_upto_region 3 with (fail)
    go_cut [21] (fun v21 wc => ∃ (kq : Nat) (x21_3 : Bool), v21 = .bool x21_3 ∧ Aside0 (spec_l2Value.j0 kq a0 a1 x21_3 = some (r1, r2)) ∧ Aside0 (kq ≤ k) ∧ Aside0 (Below w.heap.size w wc))
    case first =>
      have H := HC4.out
      clear HC4
      obtain ⟨c5b0, H⟩ := ifn1 H
      obtain ⟨c6b0, H⟩ := ifn1 H
      by_cases c8 : (bt a0 a1) = 34
      · rw [if_pos c8] at H
        have c8b0 : ((bt a0 a1) == 34) = true := beq_iff_eq.mpr c8
        have c8b1 : ((bt a0 a1) != 34) = false := bne_eq_false_iff_eq.mpr c8
        clear c8
        have H' := am H
        clear H
        have p7 : (0 ≤ (a1 : Int)) = True := dt (by with_reducible assumption)
        have q7 : (a1 < (a0.size : Int)) = True := dt (by with_reducible assumption)
        have hx7 := bt_at a0 a1
        go_wp2
        go_meet
        case rel => exact ⟨_, (true), rfl, H', ⟨by omega⟩, ⟨by exact HB.out⟩⟩
      · rw [if_neg c8] at H
        have c8b0 : ((bt a0 a1) == 34) = false := beq_eq_false_iff_ne.mpr c8
        have c8b1 : ((bt a0 a1) != 34) = true := bne_iff_ne.mpr c8
        have H' := am H
        clear H
        have p7 : (0 ≤ (a1 : Int)) = True := dt (by with_reducible assumption)
        have q7 : (a1 < (a0.size : Int)) = True := dt (by with_reducible assumption)
        have hx7 := bt_at a0 a1
        have p9 : (0 ≤ (a1 : Int)) = True := dt (by with_reducible assumption)
        have q9 : (a1 < (a0.size : Int)) = True := dt (by with_reducible assumption)
        have hx9 := bt_at a0 a1
        go_wp2
        go_meet
        case rel => exact ⟨_, (((bt a0 a1) == 39)), rfl, H', ⟨by omega⟩, ⟨by exact HB.out⟩⟩
    case rest =>
      clear HC4
      try clear c3b0
      obtain ⟨kq, x21_3, rfl, HA, HJ3, HB⟩ := hcut
      cases kq with
      | zero => exact absurd HA.out (by simp [spec_l2Value.j0])
      | succ kj3 =>
        have H := HA.out
        clear HA
        simp only [spec_l2Value.j0] at H
        by_cases c10 : x21_3 = true
        · subst c10
          rw [if_pos rfl] at H
          obtain ⟨c11b0, H⟩ := ifn1 H
          obtain ⟨c12b0, H⟩ := ifn1 H
          obtain ⟨t229, A14, H⟩ := bnd H
          by_cases c15 : t229 ≥ (a0.size : Int)
          · rw [if_pos c15] at H
            have c15b0 : decide ((a0.size : Int) ≤ t229) = true := decide_eq_true c15
            clear c15
            simp only [Option.some.injEq, Prod.mk.injEq] at H
            obtain ⟨rfl, rfl⟩ := H
            have p13 : (0 ≤ (a1 : Int)) = True := dt (by with_reducible assumption)
            have q13 : (a1 < (a0.size : Int)) = True := dt (by with_reducible assumption)
            have hx13 := bt_at a0 a1
            go_wp2_with (((with_reducible refine gate_callee (f := 30) rfl ?_); refine goesL_ (some 28) rfl rfl Tryd.func30 (by kernel_rfl) rfl #[.string a0, .int .i64 (wrap64 (a1 + 1)), .int .u8 (bt a0 a1)] rfl (by simp only [List.map_toArray, List.map_cons, List.map_nil]; rfl) ?_; (with_reducible refine (spec_l2Find.calls kj3 a0 (wrap64 (a1 + 1)) (bt a0 a1) t229 _ A14.out).mono ?_); rintro e w' ⟨rfl, ⟨nd, rfl⟩⟩; refine ⟨_, rfl, ?_⟩))
            go_ret2
            exact ⟨rfl, by repeat ((with_reducible first | exact HB.out | apply pw_below_drewN))⟩
          · rw [if_neg c15] at H
            have c15b0 : decide ((a0.size : Int) ≤ t229) = false := decide_eq_false c15
            clear c15
            obtain ⟨ji16, hji16⟩ : ∃ j_ : Int, (wrap64 (a1 + 1)) = j_ := ⟨_, rfl⟩
            rw [hji16] at H
            (try rw [hji16] at A14)
            have hji16w : (IntKind.i64.wrap (a1 + 1)) = ji16 := (i64_w _).trans hji16
            obtain ⟨c17b0, c17b1, H⟩ := ifn2 H
            obtain ⟨c18b0, c18b1, H⟩ := ifn2 H
            obtain ⟨c19b0, c19b1, H⟩ := ifn2 H
            obtain ⟨t230, A20, H⟩ := bnd H
            simp only [Option.some.injEq, Prod.mk.injEq] at H
            obtain ⟨rfl, rfl⟩ := H
            have p13 : (0 ≤ (a1 : Int)) = True := dt (by with_reducible assumption)
            have q13 : (a1 < (a0.size : Int)) = True := dt (by with_reducible assumption)
            have hx13 := bt_at a0 a1
            go_wp2_with (first | ((with_reducible refine gate_callee (f := 30) rfl ?_); refine goesL_ (some 28) rfl rfl Tryd.func30 (by kernel_rfl) rfl #[.string a0, .int .i64 ji16, .int .u8 (bt a0 a1)] rfl (by simp only [List.map_toArray, List.map_cons, List.map_nil]; rfl) ?_; (with_reducible refine (spec_l2Find.calls kj3 a0 ji16 (bt a0 a1) t229 _ A14.out).mono ?_); rintro e w' ⟨rfl, ⟨nd, rfl⟩⟩; refine ⟨_, rfl, ?_⟩) | ((with_reducible refine gate_callee (f := 11) rfl ?_); refine goesL_ (some 38) rfl rfl Tryd.func11 (by kernel_rfl) rfl #[.string (a0.extract ((ji16) : Int).toNat (t229 : Int).toNat), .bool true] rfl (by simp only [List.map_toArray, List.map_cons, List.map_nil]; rfl) ?_; (with_reducible refine (spec_l2Refs.calls kj3 (a0.extract ((ji16) : Int).toNat (t229 : Int).toNat) true t230 _ A20.out).mono ?_); rintro e w21 ⟨rfl, hb⟩; refine ⟨_, rfl, ?_⟩; replace HB := am (below_step (by repeat ((with_reducible first | exact HB.out | apply pw_below_drewN))) hb); (try clear hb)))
            go_ret2
            exact ⟨rfl, by exact HB.out⟩
        · replace c10 := Bool.eq_false_iff.mpr c10
          subst c10
          rw [if_neg nft] at H
          have H' := am H
          clear H
          go_wp2
          go_loopg [7] kj3 (fun kq v7 w' => ∃ (x7_2 : Int), v7 = .int .i64 x7_2 ∧ Aside0 (spec_l2Value.l0 kq a0 a1 x7_2 = some (r1, r2)) ∧ Aside0 (kq ≤ kj3) ∧ Aside0 (Below w.heap.size w w'))
          case atStart => exact ⟨(a1), rfl, H', ⟨Nat.le_refl _⟩, ⟨by exact HB.out⟩⟩
          case round =>
            clear H'
            obtain ⟨x7_2, rfl, HA, HK2, HB⟩ := hrel
            cases gk with
            | zero => exact absurd HA.out (by simp [spec_l2Value.l0])
            | succ k2 =>
              have H := HA.out
              clear HA
              simp only [spec_l2Value.l0] at H
              by_cases c22 : x7_2 < (a0.size : Int)
              · rw [if_pos c22] at H
                have c22b0 : decide (x7_2 < (a0.size : Int)) = true := decide_eq_true c22
                clear c22
                obtain ⟨c23b0, H⟩ := ifn1 H
                by_cases c25 : (bt a0 x7_2) = 62
                · rw [if_pos c25] at H
                  have c25b0 : ((bt a0 x7_2) == 62) = true := beq_iff_eq.mpr c25
                  have c25b1 : ((bt a0 x7_2) != 62) = false := bne_eq_false_iff_eq.mpr c25
                  clear c25
                  obtain ⟨c26b0, c26b1, H⟩ := ifn2 H
                  obtain ⟨c27b0, c27b1, H⟩ := ifn2 H
                  obtain ⟨c28b0, c28b1, H⟩ := ifn2 H
                  obtain ⟨t231, A29, H⟩ := bnd H
                  simp only [Option.some.injEq, Prod.mk.injEq] at H
                  obtain ⟨rfl, rfl⟩ := H
                  have p24 : (0 ≤ (x7_2 : Int)) = True := dt (by with_reducible assumption)
                  have q24 : (x7_2 < (a0.size : Int)) = True := dt (by with_reducible assumption)
                  have hx24 := bt_at a0 x7_2
                  go_wp2_with (((with_reducible refine gate_callee (f := 11) rfl ?_); refine goesL_ (some 65) rfl rfl Tryd.func11 (by kernel_rfl) rfl #[.string (a0.extract (a1 : Int).toNat (x7_2 : Int).toNat), .bool true] rfl (by simp only [List.map_toArray, List.map_cons, List.map_nil]; rfl) ?_; (with_reducible refine (spec_l2Refs.calls k2 (a0.extract (a1 : Int).toNat (x7_2 : Int).toNat) true t231 _ A29.out).mono ?_); rintro e w30 ⟨rfl, hb⟩; refine ⟨_, rfl, ?_⟩; replace HB := am (below_step HB.out hb); (try clear hb)))
                  go_ret2
                  exact ⟨rfl, by exact HB.out⟩
                · rw [if_neg c25] at H
                  have c25b0 : ((bt a0 x7_2) == 62) = false := beq_eq_false_iff_ne.mpr c25
                  have c25b1 : ((bt a0 x7_2) != 62) = true := bne_iff_ne.mpr c25
                  obtain ⟨t232, A32, H⟩ := bnd H
                  obtain rfl | rfl := boo t232
                  · rw [if_pos rfl] at H
                    obtain ⟨c34b0, c34b1, H⟩ := ifn2 H
                    obtain ⟨c35b0, c35b1, H⟩ := ifn2 H
                    obtain ⟨c36b0, c36b1, H⟩ := ifn2 H
                    obtain ⟨t233, A37, H⟩ := bnd H
                    simp only [Option.some.injEq, Prod.mk.injEq] at H
                    obtain ⟨rfl, rfl⟩ := H
                    have p24 : (0 ≤ (x7_2 : Int)) = True := dt (by with_reducible assumption)
                    have q24 : (x7_2 < (a0.size : Int)) = True := dt (by with_reducible assumption)
                    have hx24 := bt_at a0 x7_2
                    have p31 : (0 ≤ (x7_2 : Int)) = True := dt (by with_reducible assumption)
                    have q31 : (x7_2 < (a0.size : Int)) = True := dt (by with_reducible assumption)
                    have hx31 := bt_at a0 x7_2
                    go_wp2_with (first | (go_at_call 54; (with_reducible refine (spec_l1White.calls (bt a0 x7_2) true _ A32.out).mono ?_); rintro e w' ⟨rfl, ⟨nd, rfl⟩⟩) | ((with_reducible refine gate_callee (f := 11) rfl ?_); refine goesL_ (some 65) rfl rfl Tryd.func11 (by kernel_rfl) rfl #[.string (a0.extract (a1 : Int).toNat (x7_2 : Int).toNat), .bool true] rfl (by simp only [List.map_toArray, List.map_cons, List.map_nil]; rfl) ?_; (with_reducible refine (spec_l2Refs.calls k2 (a0.extract (a1 : Int).toNat (x7_2 : Int).toNat) true t233 _ A37.out).mono ?_); rintro e w38 ⟨rfl, hb⟩; refine ⟨_, rfl, ?_⟩; replace HB := am (below_step (by repeat ((with_reducible first | exact HB.out | apply pw_below_drewN))) hb); (try clear hb)))
                    go_ret2
                    exact ⟨rfl, by exact HB.out⟩
                  · rw [if_neg nft] at H
                    have H' := am H
                    clear H
                    have p24 : (0 ≤ (x7_2 : Int)) = True := dt (by with_reducible assumption)
                    have q24 : (x7_2 < (a0.size : Int)) = True := dt (by with_reducible assumption)
                    have hx24 := bt_at a0 x7_2
                    have p31 : (0 ≤ (x7_2 : Int)) = True := dt (by with_reducible assumption)
                    have q31 : (x7_2 < (a0.size : Int)) = True := dt (by with_reducible assumption)
                    have hx31 := bt_at a0 x7_2
                    go_wp2_with ((go_at_call 54; (with_reducible refine (spec_l1White.calls (bt a0 x7_2) false _ A32.out).mono ?_); rintro e w' ⟨rfl, ⟨nd, rfl⟩⟩))
                    go_roundg k2
                    case measure => have := HJ3.out; have := HK2.out; omega
                    case rel => exact ⟨(wrap64 (x7_2 + 1)), rfl, H', ⟨by have := HJ3.out; have := HK2.out; omega⟩, ⟨by repeat ((with_reducible first | exact HB.out | apply pw_below_drewN))⟩⟩
              · rw [if_neg c22] at H
                have c22b0 : decide (x7_2 < (a0.size : Int)) = false := decide_eq_false c22
                clear c22
                obtain ⟨c39b0, c39b1, H⟩ := ifn2 H
                obtain ⟨c40b0, c40b1, H⟩ := ifn2 H
                obtain ⟨c41b0, c41b1, H⟩ := ifn2 H
                obtain ⟨t234, A42, H⟩ := bnd H
                simp only [Option.some.injEq, Prod.mk.injEq] at H
                obtain ⟨rfl, rfl⟩ := H
                go_wp2_with (((with_reducible refine gate_callee (f := 11) rfl ?_); refine goesL_ (some 65) rfl rfl Tryd.func11 (by kernel_rfl) rfl #[.string (a0.extract (a1 : Int).toNat (x7_2 : Int).toNat), .bool true] rfl (by simp only [List.map_toArray, List.map_cons, List.map_nil]; rfl) ?_; (with_reducible refine (spec_l2Refs.calls k2 (a0.extract (a1 : Int).toNat (x7_2 : Int).toNat) true t234 _ A42.out).mono ?_); rintro e w43 ⟨rfl, hb⟩; refine ⟨_, rfl, ?_⟩; replace HB := am (below_step HB.out hb); (try clear hb)))
                go_ret2
                exact ⟨rfl, by exact HB.out⟩
def spec_l2Has.l0 : Nat → List (S62) → ByteArray → Int → Option (Bool)
  | 0, _, _, _ => none
  | k + 1, x0, x1, x5 => if x5 < (x0.length : Int) then (if 0 ≤ x5 then (if ((rd_T62 x0 x5).f0).toList = x1.toList then (some true) else (spec_l2Has.l0 k x0 x1 (wrap64 (x5 + 1)))) else (none)) else (some false)
def spec_l2Has.f (k : Nat) (l0 : List (S62)) (a1 : ByteArray) : Option (Bool) := spec_l2Has.l0 k l0 a1 0
theorem spec_l2Has.mono_l : ∀ k, (∀ y0 y1 y2, LeO (spec_l2Has.l0 k y0 y1 y2) (spec_l2Has.l0 (k + 1) y0 y1 y2))
  | 0 => fun _ _ _ r h => by simp [spec_l2Has.l0] at h
  | k + 1 => by
    have ih0 := spec_l2Has.mono_l k
    · intro y0 y1 y2
      unfold spec_l2Has.l0
      repeat' first
      | (with_reducible exact ih0 _ _ _)
      | (with_reducible exact LeO.refl _)
      | (with_reducible exact LeO.none _)
      | (with_reducible refine LeO.ite ?_ ?_)
      | (with_reducible refine LeO.bind ?_ (fun _ => ?_))
      | exact ih0 _ _ _
      | exact LeO.none _
      | refine LeO.ite ?_ ?_
      | refine LeO.bind ?_ (fun _ => ?_)
theorem spec_l2Has.mono : ∀ a0 a1 k, LeO (spec_l2Has.f k a0 a1) (spec_l2Has.f (k + 1) a0 a1) := by
  intro a0 a1 k
  have ih0 := spec_l2Has.mono_l k
  unfold spec_l2Has.f
  repeat' first
      | (with_reducible exact ih0 _ _ _)
      | (with_reducible exact LeO.refl _)
      | (with_reducible exact LeO.none _)
      | (with_reducible refine LeO.ite ?_ ?_)
      | (with_reducible refine LeO.bind ?_ (fun _ => ?_))
      | exact ih0 _ _ _
      | exact LeO.none _
      | refine LeO.ite ?_ ?_
      | refine LeO.bind ?_ (fun _ => ?_)
set_option maxHeartbeats 8000000 in
set_option maxRecDepth 100000 in
theorem spec_l2Has.calls (k : Nat) (A0 : Option Addr) (c0 : Nat) (l0 : List (S62)) (a1 : ByteArray) (r : Bool) (w : World) (hr0 : Kd.C k62 w A0 l0.length l0) (hc0 : l0.length ≤ c0) (h : spec_l2Has.f k l0 a1 = some r) :
    Calls Tryd.prog 35 #[.slice A0 l0.length c0, .string a1] w fun e w' => e = .returned (.bool r) ∧ Drawn0 w w' := by
  have HR0 := am hr0
  have HC0 := am hc0
  clear hr0 hc0
  have H := h
  clear h
  unfold spec_l2Has.f at H
  have H' := am H
  clear H
  go_enter Tryd.func35, Tryd.ntmps35
  go_wp2
  go_loopg [5] k (fun kq v5 w' => ∃ (x5_1 : Int), v5 = .int .i64 x5_1 ∧ Aside0 (spec_l2Has.l0 kq l0 a1 x5_1 = some r) ∧ Aside0 (kq ≤ k) ∧ Drawn0 w w')
  case atStart => exact ⟨(0), rfl, H', ⟨Nat.le_refl _⟩, by repeat (exact Drawn0.refl _)⟩
  case round =>
    clear H'
    obtain ⟨x5_1, rfl, HA, HK1, ⟨m1, rfl⟩⟩ := hrel
    cases gk with
    | zero => exact absurd HA.out (by simp [spec_l2Has.l0])
    | succ k1 =>
      have H := HA.out
      clear HA
      simp only [spec_l2Has.l0] at H
      by_cases c3 : x5_1 < (l0.length : Int)
      · rw [if_pos c3] at H
        have c3b0 : decide (x5_1 < (l0.length : Int)) = true := decide_eq_true c3
        clear c3
        obtain ⟨c4b0, H⟩ := ifn1 H
        by_cases c5 : ((rd_T62 l0 x5_1).f0).toList = a1.toList
        · rw [if_pos c5] at H
          have c5b0 : (((rd_T62 l0 x5_1).f0).toList == a1.toList) = true := beq_iff_eq.mpr c5
          have c5b1 : (((rd_T62 l0 x5_1).f0).toList != a1.toList) = false := bne_eq_false_iff_eq.mpr c5
          clear c5
          obtain rfl := Option.some.inj H
          have p235 : 0 ≤ (x5_1 : Int) := of_decide_eq_true (by with_reducible assumption)
          have q235 : x5_1 < (l0.length : Int) := of_decide_eq_true (by with_reducible assumption)
          obtain ⟨ad235, e235, hx235_0, hx235_1⟩ := at_T62 HR0.out x5_1 p235 q235
          cases e235
          replace p235 := eq_true p235
          replace q235 := eq_true q235
          go_wp2
          go_ret
          exact ⟨rfl, by repeat (first | exact Drawn0.refl _ | apply Drawn0.step)⟩
        · rw [if_neg c5] at H
          have c5b0 : (((rd_T62 l0 x5_1).f0).toList == a1.toList) = false := beq_eq_false_iff_ne.mpr c5
          have c5b1 : (((rd_T62 l0 x5_1).f0).toList != a1.toList) = true := bne_iff_ne.mpr c5
          have H' := am H
          clear H
          have p235 : 0 ≤ (x5_1 : Int) := of_decide_eq_true (by with_reducible assumption)
          have q235 : x5_1 < (l0.length : Int) := of_decide_eq_true (by with_reducible assumption)
          obtain ⟨ad235, e235, hx235_0, hx235_1⟩ := at_T62 HR0.out x5_1 p235 q235
          cases e235
          replace p235 := eq_true p235
          replace q235 := eq_true q235
          go_wp2
          go_roundg k1
          case measure => have := HK1.out; omega
          case rel => exact ⟨(wrap64 (x5_1 + 1)), rfl, H', ⟨by have := HK1.out; omega⟩, by repeat (first | exact Drawn0.refl _ | apply Drawn0.step)⟩
      · rw [if_neg c3] at H
        have c3b0 : decide (x5_1 < (l0.length : Int)) = false := decide_eq_false c3
        clear c3
        obtain rfl := Option.some.inj H
        go_wp2
        go_ret
        exact ⟨rfl, by repeat (first | exact Drawn0.refl _ | apply Drawn0.step)⟩
end Go.Proofs.YtnjnoabldjodcaaDoor.PFnExactTokens
