/- Part 3 of the proof: PtC. -/
import Derived.Test.YtnjnoabldjodcaaDoorA2
import Derived.Test.YtnjnoabldjodcaaDoorA1
namespace Go.Proofs.YtnjnoabldjodcaaDoor.PFnExactTokens
open Go.RowKit Go.Proofs.YtnjnoabldjodcaaDoorW.PrintWords Go.Proofs.YtnjnoabldjodcaaDoorW.PrintLast Go.Proofs.YtnjnoabldjodcaaDoorW.PrintMore
attribute [local go_sem] max2_int min2_int max_two min_two max_three min_three max_four min_four
set_option linter.unusedVariables false
set_option linter.unusedSimpArgs false
mutual
def spec_l2Number.j0 : Nat → ByteArray → Int → Int → Int → Bool → Option (ByteArray × Int)
  | 0, _, _, _, _, _ => none
  | k + 1, x0, x1, x6, x7, x27 => if x27 = true then (spec_l2Number.j1 k x0 x1 (wrap64 (x6 + 1)) 16) else (spec_l2Number.j1 k x0 x1 x6 x7)
def spec_l2Number.j1 : Nat → ByteArray → Int → Int → Int → Option (ByteArray × Int)
  | 0, _, _, _, _ => none
  | k + 1, x0, x1, x6, x7 => spec_l2Number.l0 k x0 x1 x6 x7 x6 0
def spec_l2Number.l0 : Nat → ByteArray → Int → Int → Int → Int → Int → Option (ByteArray × Int)
  | 0, _, _, _, _, _, _ => none
  | k + 1, x0, x1, x6, x7, x8, x9 => if x6 < (x0.size : Int) then (if 0 ≤ x6 then ((spec_l2Hex.f k (bt x0 x6)).bind fun t133 => (spec_l2Number.j3 k x0 x1 x6 x7 x8 x9 (decide (t133 < x7)))) else (none)) else (spec_l2Number.j3 k x0 x1 x6 x7 x8 x9 false)
def spec_l2Number.j3 : Nat → ByteArray → Int → Int → Int → Int → Int → Bool → Option (ByteArray × Int)
  | 0, _, _, _, _, _, _, _ => none
  | k + 1, x0, x1, x6, x7, x8, x9, x42 => if x42 = true then (if x9 ≤ 1114111 then (if 0 ≤ x6 then (if x6 < (x0.size : Int) then ((spec_l2Hex.f k (bt x0 x6)).bind fun t134 => (spec_l2Number.l0 k x0 x1 (wrap64 (x6 + 1)) x7 x8 (wrap64 ((wrap64 (x9 * x7)) + t134)))) else (none)) else (none)) else (spec_l2Number.l0 k x0 x1 (wrap64 (x6 + 1)) x7 x8 x9)) else (if x6 = x8 then (some ((⟨#[]⟩ : ByteArray), 0)) else (if x6 < (x0.size : Int) then (if 0 ≤ x6 then (spec_l2Number.j4 k x1 x6 x9 ((bt x0 x6) == 59)) else (none)) else (spec_l2Number.j4 k x1 x6 x9 false)))
def spec_l2Number.j4 : Nat → Int → Int → Int → Bool → Option (ByteArray × Int)
  | 0, _, _, _, _ => none
  | k + 1, x1, x6, x9, x67 => if x67 = true then (if x9 = 0 then ((spec_l1Put.f k (([] : List Int)) (-1)).bind fun t138 => (some (strOfNums t138, wrap64 ((wrap64 (x6 + 1)) - x1)))) else ((spec_l1Put.f k (([] : List Int)) x9).bind fun t144 => (some (strOfNums t144, wrap64 ((wrap64 (x6 + 1)) - x1))))) else (if x9 = 0 then ((spec_l1Put.f k (([] : List Int)) (-1)).bind fun t150 => (some (strOfNums t150, wrap64 (x6 - x1)))) else ((spec_l1Put.f k (([] : List Int)) x9).bind fun t156 => (some (strOfNums t156, wrap64 (x6 - x1)))))
end
def spec_l2Number.f (k : Nat) (a0 : ByteArray) (a1 : Int) : Option (ByteArray × Int) := if (wrap64 (a1 + 2)) < (a0.size : Int) then (if 0 ≤ (wrap64 (a1 + 2)) then (if (bt a0 (wrap64 (a1 + 2))) = 120 then (spec_l2Number.j0 k a0 a1 (wrap64 (a1 + 2)) 10 true) else (spec_l2Number.j0 k a0 a1 (wrap64 (a1 + 2)) 10 ((bt a0 (wrap64 (a1 + 2))) == 88))) else (none)) else (spec_l2Number.j0 k a0 a1 (wrap64 (a1 + 2)) 10 false)
theorem spec_l2Number.mono_l : ∀ k, (∀ y0 y1 y2 y3 y4, LeO (spec_l2Number.j0 k y0 y1 y2 y3 y4) (spec_l2Number.j0 (k + 1) y0 y1 y2 y3 y4)) ∧ (∀ y0 y1 y2 y3, LeO (spec_l2Number.j1 k y0 y1 y2 y3) (spec_l2Number.j1 (k + 1) y0 y1 y2 y3)) ∧ (∀ y0 y1 y2 y3 y4 y5, LeO (spec_l2Number.l0 k y0 y1 y2 y3 y4 y5) (spec_l2Number.l0 (k + 1) y0 y1 y2 y3 y4 y5)) ∧ (∀ y0 y1 y2 y3 y4 y5 y6, LeO (spec_l2Number.j3 k y0 y1 y2 y3 y4 y5 y6) (spec_l2Number.j3 (k + 1) y0 y1 y2 y3 y4 y5 y6)) ∧ (∀ y0 y1 y2 y3, LeO (spec_l2Number.j4 k y0 y1 y2 y3) (spec_l2Number.j4 (k + 1) y0 y1 y2 y3))
  | 0 => ⟨fun _ _ _ _ _ r h => by simp [spec_l2Number.j0] at h, fun _ _ _ _ r h => by simp [spec_l2Number.j1] at h, fun _ _ _ _ _ _ r h => by simp [spec_l2Number.l0] at h, fun _ _ _ _ _ _ _ r h => by simp [spec_l2Number.j3] at h, fun _ _ _ _ r h => by simp [spec_l2Number.j4] at h⟩
  | k + 1 => by
    obtain ⟨ih0, ih1, ih2, ih3, ih4⟩ := spec_l2Number.mono_l k
    refine ⟨?_, ?_, ?_, ?_, ?_⟩
    · intro y0 y1 y2 y3 y4
      unfold spec_l2Number.j0
      repeat' first
      | (with_reducible exact ih0 _ _ _ _ _)
      | (with_reducible exact ih1 _ _ _ _)
      | (with_reducible exact ih2 _ _ _ _ _ _)
      | (with_reducible exact ih3 _ _ _ _ _ _ _)
      | (with_reducible exact ih4 _ _ _ _)
      | (with_reducible exact spec_l1Put.mono _ _ _)
      | (with_reducible exact spec_l2Hex.mono _ _)
      | (with_reducible exact LeO.refl _)
      | (with_reducible exact LeO.none _)
      | (with_reducible refine LeO.ite ?_ ?_)
      | (with_reducible refine LeO.bind ?_ (fun _ => ?_))
      | exact ih0 _ _ _ _ _
      | exact ih1 _ _ _ _
      | exact ih2 _ _ _ _ _ _
      | exact ih3 _ _ _ _ _ _ _
      | exact ih4 _ _ _ _
      | exact spec_l1Put.mono _ _ _
      | exact spec_l2Hex.mono _ _
      | exact LeO.none _
      | refine LeO.ite ?_ ?_
      | refine LeO.bind ?_ (fun _ => ?_)
    · intro y0 y1 y2 y3
      unfold spec_l2Number.j1
      repeat' first
      | (with_reducible exact ih0 _ _ _ _ _)
      | (with_reducible exact ih1 _ _ _ _)
      | (with_reducible exact ih2 _ _ _ _ _ _)
      | (with_reducible exact ih3 _ _ _ _ _ _ _)
      | (with_reducible exact ih4 _ _ _ _)
      | (with_reducible exact spec_l1Put.mono _ _ _)
      | (with_reducible exact spec_l2Hex.mono _ _)
      | (with_reducible exact LeO.refl _)
      | (with_reducible exact LeO.none _)
      | (with_reducible refine LeO.ite ?_ ?_)
      | (with_reducible refine LeO.bind ?_ (fun _ => ?_))
      | exact ih0 _ _ _ _ _
      | exact ih1 _ _ _ _
      | exact ih2 _ _ _ _ _ _
      | exact ih3 _ _ _ _ _ _ _
      | exact ih4 _ _ _ _
      | exact spec_l1Put.mono _ _ _
      | exact spec_l2Hex.mono _ _
      | exact LeO.none _
      | refine LeO.ite ?_ ?_
      | refine LeO.bind ?_ (fun _ => ?_)
    · intro y0 y1 y2 y3 y4 y5
      unfold spec_l2Number.l0
      repeat' first
      | (with_reducible exact ih0 _ _ _ _ _)
      | (with_reducible exact ih1 _ _ _ _)
      | (with_reducible exact ih2 _ _ _ _ _ _)
      | (with_reducible exact ih3 _ _ _ _ _ _ _)
      | (with_reducible exact ih4 _ _ _ _)
      | (with_reducible exact spec_l1Put.mono _ _ _)
      | (with_reducible exact spec_l2Hex.mono _ _)
      | (with_reducible exact LeO.refl _)
      | (with_reducible exact LeO.none _)
      | (with_reducible refine LeO.ite ?_ ?_)
      | (with_reducible refine LeO.bind ?_ (fun _ => ?_))
      | exact ih0 _ _ _ _ _
      | exact ih1 _ _ _ _
      | exact ih2 _ _ _ _ _ _
      | exact ih3 _ _ _ _ _ _ _
      | exact ih4 _ _ _ _
      | exact spec_l1Put.mono _ _ _
      | exact spec_l2Hex.mono _ _
      | exact LeO.none _
      | refine LeO.ite ?_ ?_
      | refine LeO.bind ?_ (fun _ => ?_)
    · intro y0 y1 y2 y3 y4 y5 y6
      unfold spec_l2Number.j3
      repeat' first
      | (with_reducible exact ih0 _ _ _ _ _)
      | (with_reducible exact ih1 _ _ _ _)
      | (with_reducible exact ih2 _ _ _ _ _ _)
      | (with_reducible exact ih3 _ _ _ _ _ _ _)
      | (with_reducible exact ih4 _ _ _ _)
      | (with_reducible exact spec_l1Put.mono _ _ _)
      | (with_reducible exact spec_l2Hex.mono _ _)
      | (with_reducible exact LeO.refl _)
      | (with_reducible exact LeO.none _)
      | (with_reducible refine LeO.ite ?_ ?_)
      | (with_reducible refine LeO.bind ?_ (fun _ => ?_))
      | exact ih0 _ _ _ _ _
      | exact ih1 _ _ _ _
      | exact ih2 _ _ _ _ _ _
      | exact ih3 _ _ _ _ _ _ _
      | exact ih4 _ _ _ _
      | exact spec_l1Put.mono _ _ _
      | exact spec_l2Hex.mono _ _
      | exact LeO.none _
      | refine LeO.ite ?_ ?_
      | refine LeO.bind ?_ (fun _ => ?_)
    · intro y0 y1 y2 y3
      unfold spec_l2Number.j4
      repeat' first
      | (with_reducible exact ih0 _ _ _ _ _)
      | (with_reducible exact ih1 _ _ _ _)
      | (with_reducible exact ih2 _ _ _ _ _ _)
      | (with_reducible exact ih3 _ _ _ _ _ _ _)
      | (with_reducible exact ih4 _ _ _ _)
      | (with_reducible exact spec_l1Put.mono _ _ _)
      | (with_reducible exact spec_l2Hex.mono _ _)
      | (with_reducible exact LeO.refl _)
      | (with_reducible exact LeO.none _)
      | (with_reducible refine LeO.ite ?_ ?_)
      | (with_reducible refine LeO.bind ?_ (fun _ => ?_))
      | exact ih0 _ _ _ _ _
      | exact ih1 _ _ _ _
      | exact ih2 _ _ _ _ _ _
      | exact ih3 _ _ _ _ _ _ _
      | exact ih4 _ _ _ _
      | exact spec_l1Put.mono _ _ _
      | exact spec_l2Hex.mono _ _
      | exact LeO.none _
      | refine LeO.ite ?_ ?_
      | refine LeO.bind ?_ (fun _ => ?_)
theorem spec_l2Number.mono : ∀ a0 a1 k, LeO (spec_l2Number.f k a0 a1) (spec_l2Number.f (k + 1) a0 a1) := by
  intro a0 a1 k
  obtain ⟨ih0, ih1, ih2, ih3, ih4⟩ := spec_l2Number.mono_l k
  unfold spec_l2Number.f
  repeat' first
      | (with_reducible exact ih0 _ _ _ _ _)
      | (with_reducible exact ih1 _ _ _ _)
      | (with_reducible exact ih2 _ _ _ _ _ _)
      | (with_reducible exact ih3 _ _ _ _ _ _ _)
      | (with_reducible exact ih4 _ _ _ _)
      | (with_reducible exact spec_l1Put.mono _ _ _)
      | (with_reducible exact spec_l2Hex.mono _ _)
      | (with_reducible exact LeO.refl _)
      | (with_reducible exact LeO.none _)
      | (with_reducible refine LeO.ite ?_ ?_)
      | (with_reducible refine LeO.bind ?_ (fun _ => ?_))
      | exact ih0 _ _ _ _ _
      | exact ih1 _ _ _ _
      | exact ih2 _ _ _ _ _ _
      | exact ih3 _ _ _ _ _ _ _
      | exact ih4 _ _ _ _
      | exact spec_l1Put.mono _ _ _
      | exact spec_l2Hex.mono _ _
      | exact LeO.none _
      | refine LeO.ite ?_ ?_
      | refine LeO.bind ?_ (fun _ => ?_)
set_option maxHeartbeats 8000000 in
set_option maxRecDepth 100000 in
theorem spec_l2Number.calls (k : Nat) (a0 : ByteArray) (a1 : Int) (r1 : ByteArray) (r2 : Int) (w : World) (h : spec_l2Number.f k a0 a1 = some (r1, r2)) :
    Calls Tryd.prog 55 #[.string a0, .int .i64 a1] w fun e w' => e = .returned (.tuple #[.string r1, .int .i64 r2]) ∧ Below w.heap.size w w' := by
  have HB := am (Below.refl w.heap.size w)
  have H := h
  clear h
  unfold spec_l2Number.f at H
  have HC3 := am H
  clear H
  go_enter Tryd.func55, Tryd.ntmps55
  go_upto_region 3 with (fail)
  go_cut [27] (fun v27 wc => ∃ (kq : Nat) (x27_2 : Bool), v27 = .bool x27_2 ∧ Aside0 (spec_l2Number.j0 kq a0 a1 (wrap64 (a1 + 2)) 10 x27_2 = some (r1, r2)) ∧ Aside0 (kq ≤ k) ∧ Aside0 (Below w.heap.size w wc))
  case first =>
    have H := HC3.out
    clear HC3
    by_cases c4 : (wrap64 (a1 + 2)) < (a0.size : Int)
    · rw [if_pos c4] at H
      have c4b0 : decide ((wrap64 (a1 + 2)) < (a0.size : Int)) = true := decide_eq_true c4
      clear c4
      obtain ⟨ji5, hji5⟩ : ∃ j_ : Int, (wrap64 (a1 + 2)) = j_ := ⟨_, rfl⟩
      rw [hji5] at H
      (try rw [hji5] at c4b0)
      have hji5w : (IntKind.i64.wrap (a1 + 2)) = ji5 := (i64_w _).trans hji5
      obtain ⟨c6b0, H⟩ := ifn1 H
      by_cases c8 : (bt a0 (ji5)) = 120
      · rw [if_pos c8] at H
        have c8b0 : ((bt a0 (ji5)) == 120) = true := beq_iff_eq.mpr c8
        have c8b1 : ((bt a0 (ji5)) != 120) = false := bne_eq_false_iff_eq.mpr c8
        clear c8
        have H' := am H
        clear H
        have p7 : (0 ≤ ((ji5) : Int)) = True := dt (by with_reducible assumption)
        have q7 : ((ji5) < (a0.size : Int)) = True := dt (by with_reducible assumption)
        have hx7 := bt_at a0 (ji5)
        go_wp2
        go_meet
        case rel => exact ⟨_, (true), rfl, ⟨by (rw [hji5]; exact H'.out)⟩, ⟨by omega⟩, ⟨by exact HB.out⟩⟩
      · rw [if_neg c8] at H
        have c8b0 : ((bt a0 (ji5)) == 120) = false := beq_eq_false_iff_ne.mpr c8
        have c8b1 : ((bt a0 (ji5)) != 120) = true := bne_iff_ne.mpr c8
        have H' := am H
        clear H
        have p7 : (0 ≤ ((ji5) : Int)) = True := dt (by with_reducible assumption)
        have q7 : ((ji5) < (a0.size : Int)) = True := dt (by with_reducible assumption)
        have hx7 := bt_at a0 (ji5)
        have p9 : (0 ≤ ((ji5) : Int)) = True := dt (by with_reducible assumption)
        have q9 : ((ji5) < (a0.size : Int)) = True := dt (by with_reducible assumption)
        have hx9 := bt_at a0 (ji5)
        go_wp2
        go_meet
        case rel => exact ⟨_, (((bt a0 (ji5)) == 88)), rfl, ⟨by (rw [hji5]; exact H'.out)⟩, ⟨by omega⟩, ⟨by exact HB.out⟩⟩
    · rw [if_neg c4] at H
      have c4b0 : decide ((wrap64 (a1 + 2)) < (a0.size : Int)) = false := decide_eq_false c4
      clear c4
      have H' := am H
      clear H
      go_wp2
      go_meet
      case rel => exact ⟨_, (false), rfl, H', ⟨by omega⟩, ⟨by exact HB.out⟩⟩
  case rest =>
    clear HC3
    obtain ⟨kq, x27_2, rfl, HA, HJ2, HB⟩ := hcut
    cases kq with
    | zero => exact absurd HA.out (by simp [spec_l2Number.j0])
    | succ kj2 =>
      have H := HA.out
      clear HA
      simp only [spec_l2Number.j0] at H
      have HC10 := am H
      clear H
      go_upto_if 27 with (fail)
      go_cut [6, 7] (fun v6 v7 wc => ∃ (kq : Nat) (x6_9 : Int) (x7_9 : Int), v6 = .int .i64 x6_9 ∧ v7 = .int .i64 x7_9 ∧ Aside0 (spec_l2Number.j1 kq a0 a1 x6_9 x7_9 = some (r1, r2)) ∧ Aside0 (kq ≤ kj2) ∧ Aside0 (Below w.heap.size w wc))
      case first =>
        have H := HC10.out
        clear HC10
        by_cases c11 : x27_2 = true
        · subst c11
          rw [if_pos rfl] at H
          have H' := am H
          clear H
          go_wp2
          go_meet
          case rel => exact ⟨_, (wrap64 ((wrap64 (a1 + 2)) + 1)), (16), rfl, rfl, H', ⟨by have := HJ2.out; omega⟩, ⟨by exact HB.out⟩⟩
        · replace c11 := Bool.eq_false_iff.mpr c11
          subst c11
          rw [if_neg nft] at H
          have H' := am H
          clear H
          go_wp2
          go_meet
          case rel => exact ⟨_, ((wrap64 (a1 + 2))), (10), rfl, rfl, H', ⟨by have := HJ2.out; omega⟩, ⟨by exact HB.out⟩⟩
      case rest =>
        clear HC10
        obtain ⟨kq, x6_9, x7_9, rfl, rfl, HA, HJ9, HB⟩ := hcut
        cases kq with
        | zero => exact absurd HA.out (by simp [spec_l2Number.j1])
        | succ kj9 =>
          have H := HA.out
          clear HA
          simp only [spec_l2Number.j1] at H
          have H' := am H
          clear H
          go_wp2
          go_loopg [6, 9] kj9 (fun kq v6 v9 w' => ∃ (x6_3 : Int) (x9_3 : Int), v6 = .int .i64 x6_3 ∧ v9 = .int .i64 x9_3 ∧ Aside0 (spec_l2Number.l0 kq a0 a1 x6_3 x7_9 x6_9 x9_3 = some (r1, r2)) ∧ Aside0 (kq ≤ kj9) ∧ Aside0 (Below w.heap.size w w'))
          case atStart => exact ⟨(x6_9), (0), rfl, rfl, H', ⟨Nat.le_refl _⟩, ⟨by exact HB.out⟩⟩
          case round =>
            clear H'
            obtain ⟨x6_3, x9_3, rfl, rfl, HA, HK3, HB⟩ := hrel
            cases gk with
            | zero => exact absurd HA.out (by simp [spec_l2Number.l0])
            | succ k3 =>
              have H := HA.out
              clear HA
              simp only [spec_l2Number.l0] at H
              have HC12 := am H
              clear H
              go_upto_region 8 with (fail)
              go_cut [42] (fun v42 wc => ∃ (kq : Nat) (x42_11 : Bool), v42 = .bool x42_11 ∧ Aside0 (spec_l2Number.j3 kq a0 a1 x6_3 x7_9 x6_9 x9_3 x42_11 = some (r1, r2)) ∧ Aside0 (kq ≤ k3) ∧ Aside0 (Below w.heap.size w wc))
              case first =>
                have H := HC12.out
                clear HC12
                by_cases c13 : x6_3 < (a0.size : Int)
                · rw [if_pos c13] at H
                  have c13b0 : decide (x6_3 < (a0.size : Int)) = true := decide_eq_true c13
                  clear c13
                  obtain ⟨c14b0, H⟩ := ifn1 H
                  obtain ⟨t133, A16, H⟩ := bnd H
                  have H' := am H
                  clear H
                  have p15 : (0 ≤ (x6_3 : Int)) = True := dt (by with_reducible assumption)
                  have q15 : (x6_3 < (a0.size : Int)) = True := dt (by with_reducible assumption)
                  have hx15 := bt_at a0 x6_3
                  go_wp2_with ((go_at_call 76; (with_reducible refine (spec_l2Hex.calls k3 (bt a0 x6_3) t133 _ A16.out).mono ?_); rintro e w' ⟨rfl, ⟨nd, rfl⟩⟩))
                  go_meet
                  case rel => exact ⟨_, (decide (t133 < x7_9)), rfl, H', ⟨by have := HJ2.out; have := HJ9.out; have := HK3.out; omega⟩, ⟨by repeat ((with_reducible first | exact HB.out | apply pw_below_drewN))⟩⟩
                · rw [if_neg c13] at H
                  have c13b0 : decide (x6_3 < (a0.size : Int)) = false := decide_eq_false c13
                  clear c13
                  have H' := am H
                  clear H
                  go_wp2
                  go_meet
                  case rel => exact ⟨_, (false), rfl, H', ⟨by have := HJ2.out; have := HJ9.out; have := HK3.out; omega⟩, ⟨by exact HB.out⟩⟩
              case rest =>
                clear HC12
                obtain ⟨kq, x42_11, rfl, HA, HJ11, HB⟩ := hcut
                cases kq with
                | zero => exact absurd HA.out (by simp [spec_l2Number.j3])
                | succ kj11 =>
                  have H := HA.out
                  clear HA
                  simp only [spec_l2Number.j3] at H
                  by_cases c17 : x42_11 = true
                  · subst c17
                    rw [if_pos rfl] at H
                    by_cases c18 : x9_3 ≤ 1114111
                    · rw [if_pos c18] at H
                      have c18b0 : decide (x9_3 ≤ 1114111) = true := decide_eq_true c18
                      clear c18
                      obtain ⟨c19b0, H⟩ := ifn1 H
                      obtain ⟨c20b0, H⟩ := ifn1 H
                      obtain ⟨t134, A22, H⟩ := bnd H
                      have H' := am H
                      clear H
                      have p21 : (0 ≤ (x6_3 : Int)) = True := dt (by with_reducible assumption)
                      have q21 : (x6_3 < (a0.size : Int)) = True := dt (by with_reducible assumption)
                      have hx21 := bt_at a0 x6_3
                      go_wp2_with (((with_reducible refine gate_callee (f := 76) rfl ?_); refine goesL_ (some 51) rfl rfl Tryd.func76 (by kernel_rfl) rfl #[.int .u8 (bt a0 x6_3)] rfl (by simp only [List.map_toArray, List.map_cons, List.map_nil]; rfl) ?_; (with_reducible refine (spec_l2Hex.calls kj11 (bt a0 x6_3) t134 _ A22.out).mono ?_); rintro e w' ⟨rfl, ⟨nd, rfl⟩⟩; refine ⟨_, rfl, ?_⟩))
                      go_roundg kj11
                      case measure => have := HJ2.out; have := HJ9.out; have := HK3.out; have := HJ11.out; omega
                      case rel => exact ⟨(wrap64 (x6_3 + 1)), (wrap64 ((wrap64 (x9_3 * x7_9)) + t134)), rfl, rfl, H', ⟨by have := HJ2.out; have := HJ9.out; have := HK3.out; have := HJ11.out; omega⟩, ⟨by repeat ((with_reducible first | exact HB.out | apply pw_below_drewN))⟩⟩
                    · rw [if_neg c18] at H
                      have c18b0 : decide (x9_3 ≤ 1114111) = false := decide_eq_false c18
                      clear c18
                      have H' := am H
                      clear H
                      go_wp2
                      go_roundg kj11
                      case measure => have := HJ2.out; have := HJ9.out; have := HK3.out; have := HJ11.out; omega
                      case rel => exact ⟨(wrap64 (x6_3 + 1)), (x9_3), rfl, rfl, H', ⟨by have := HJ2.out; have := HJ9.out; have := HK3.out; have := HJ11.out; omega⟩, ⟨by exact HB.out⟩⟩
                  · replace c17 := Bool.eq_false_iff.mpr c17
                    subst c17
                    rw [if_neg nft] at H
                    by_cases c23 : x6_3 = x6_9
                    · rw [if_pos c23] at H
                      have c23b0 : (x6_3 == x6_9) = true := beq_iff_eq.mpr c23
                      have c23b1 : (x6_3 != x6_9) = false := bne_eq_false_iff_eq.mpr c23
                      clear c23
                      simp only [Option.some.injEq, Prod.mk.injEq] at H
                      obtain ⟨rfl, rfl⟩ := H
                      go_wp2
                      go_ret2
                      exact ⟨rfl, by exact HB.out⟩
                    · rw [if_neg c23] at H
                      have c23b0 : (x6_3 == x6_9) = false := beq_eq_false_iff_ne.mpr c23
                      have c23b1 : (x6_3 != x6_9) = true := bne_iff_ne.mpr c23
                      have HC24 := am H
                      clear H
                      go_upto_region 14 with (fail)
                      go_cut [67] (fun v67 wc => ∃ (kq : Nat) (x67_23 : Bool), v67 = .bool x67_23 ∧ Aside0 (spec_l2Number.j4 kq a1 x6_3 x9_3 x67_23 = some (r1, r2)) ∧ Aside0 (kq ≤ kj11) ∧ Aside0 (Below w.heap.size w wc))
                      case first =>
                        have H := HC24.out
                        clear HC24
                        by_cases c25 : x6_3 < (a0.size : Int)
                        · rw [if_pos c25] at H
                          have c25b0 : decide (x6_3 < (a0.size : Int)) = true := decide_eq_true c25
                          clear c25
                          obtain ⟨c26b0, H⟩ := ifn1 H
                          have H' := am H
                          clear H
                          have p27 : (0 ≤ (x6_3 : Int)) = True := dt (by with_reducible assumption)
                          have q27 : (x6_3 < (a0.size : Int)) = True := dt (by with_reducible assumption)
                          have hx27 := bt_at a0 x6_3
                          go_wp2
                          go_meet
                          case rel => exact ⟨_, (((bt a0 x6_3) == 59)), rfl, H', ⟨by have := HJ2.out; have := HJ9.out; have := HK3.out; have := HJ11.out; omega⟩, ⟨by exact HB.out⟩⟩
                        · rw [if_neg c25] at H
                          have c25b0 : decide (x6_3 < (a0.size : Int)) = false := decide_eq_false c25
                          clear c25
                          have H' := am H
                          clear H
                          go_wp2
                          go_meet
                          case rel => exact ⟨_, (false), rfl, H', ⟨by have := HJ2.out; have := HJ9.out; have := HK3.out; have := HJ11.out; omega⟩, ⟨by exact HB.out⟩⟩
                      case rest =>
                        clear HC24
                        try clear c23
                        try clear c23b0
                        try clear c23b1
                        obtain ⟨kq, x67_23, rfl, HA, HJ23, HB⟩ := hcut
                        cases kq with
                        | zero => exact absurd HA.out (by simp [spec_l2Number.j4])
                        | succ kj23 =>
                          have H := HA.out
                          clear HA
                          simp only [spec_l2Number.j4] at H
                          by_cases c28 : x67_23 = true
                          · subst c28
                            rw [if_pos rfl] at H
                            by_cases c29 : x9_3 = 0
                            · rw [if_pos c29] at H
                              have c29b0 : (x9_3 == 0) = true := beq_iff_eq.mpr c29
                              have c29b1 : (x9_3 != 0) = false := bne_eq_false_iff_eq.mpr c29
                              clear c29
                              obtain ⟨y135, hy135⟩ : ∃ y_ : List Int, y_ = (([] : List Int)) := ⟨_, rfl⟩
                              replace H : ((spec_l1Put.f kj23 y135 (-1)).bind fun t138 => (some (strOfNums t138, wrap64 ((wrap64 (x6_3 + 1)) - a1)))) = some (r1, r2) := by (rw [hy135]; with_reducible exact H)
                              have Ny135 := am hy135
                              clear hy135
                              obtain ⟨t138, A30, H⟩ := bnd H
                              simp only [Option.some.injEq, Prod.mk.injEq] at H
                              obtain ⟨rfl, rfl⟩ := H
                              go_wp2_with (first | ((with_reducible refine gate_dst (N := 72) rfl ?_); refine Kd.R_lit (Kd.int .u8) _ 5 ?hg (N := 72) ?hd (xs := ([] : List Int)) (inner := []) (ok := fun _ => True) (okp := fun _ => True) ?hr ?hp (fun _ hk => hk) trivial (Below.refl _ _) (Nat.le_refl _) (by simp) ?_; (case hd => rfl); (case hg => rfl); (case hr => (go_simp; done)); (case hp => exact (Reps.none _ _)); intro v136 w31 ho32 hb hg_ hnew_; clear hg_ hnew_; (rw [← Ny135.out] at ho32); have HO137 := am (Kd.R_lower ho32 (below_size HB.out)); replace HB := am (below_step HB.out hb); clear hb ho32; obtain ⟨Ao33, co33, eo33⟩ := Kd.R_slice HO137.out; subst eo33) | ((with_reducible refine gate_callee (f := 58) rfl ?_); refine goesL_ (some 74) rfl rfl Tryd.func58 (by kernel_rfl) rfl #[.slice Ao33 y135.length co33, .int .i64 (-1)] rfl (by simp only [List.map_toArray, List.map_cons, List.map_nil]; rfl) ?_; (with_reducible refine (spec_l1Put.calls kj23 (fun k_ => some k_ = (.slice Ao33 y135.length co33 : Value).ownBlock) (.slice Ao33 y135.length co33) y135 (-1) t138 w _ ?side1 ?side2 A30.out).mono ?_); (case side1 => repeat ((with_reducible exact HB.out))); (case side2 => exact Kd.R_tight rfl HO137.out); rintro e w34 ⟨v139, rfl, ho0, hb, hkp⟩; refine ⟨_, rfl, ?_⟩; have HO140 := am (Kd.R_mono (ok' := fun k_ => True) ho0 (fun k_ hk_ => trivial)); replace HB := am hb; clear HO137; (try clear hb); (try clear hkp); (try clear ho0); have hcv35 := own_string (P := Tryd.prog) Tryd.underlying42 Tryd.underlying5 Tryd.underlying9 (Kd.own_of_R HO140.out)))
                              go_ret2
                              exact ⟨rfl, by exact HB.out⟩
                            · rw [if_neg c29] at H
                              have c29b0 : (x9_3 == 0) = false := beq_eq_false_iff_ne.mpr c29
                              have c29b1 : (x9_3 != 0) = true := bne_iff_ne.mpr c29
                              obtain ⟨y141, hy141⟩ : ∃ y_ : List Int, y_ = (([] : List Int)) := ⟨_, rfl⟩
                              replace H : ((spec_l1Put.f kj23 y141 x9_3).bind fun t144 => (some (strOfNums t144, wrap64 ((wrap64 (x6_3 + 1)) - a1)))) = some (r1, r2) := by (rw [hy141]; with_reducible exact H)
                              have Ny141 := am hy141
                              clear hy141
                              obtain ⟨t144, A36, H⟩ := bnd H
                              simp only [Option.some.injEq, Prod.mk.injEq] at H
                              obtain ⟨rfl, rfl⟩ := H
                              go_wp2_with (first | ((with_reducible refine gate_dst (N := 72) rfl ?_); refine Kd.R_lit (Kd.int .u8) _ 5 ?hg (N := 72) ?hd (xs := ([] : List Int)) (inner := []) (ok := fun _ => True) (okp := fun _ => True) ?hr ?hp (fun _ hk => hk) trivial (Below.refl _ _) (Nat.le_refl _) (by simp) ?_; (case hd => rfl); (case hg => rfl); (case hr => (go_simp; done)); (case hp => exact (Reps.none _ _)); intro v142 w37 ho38 hb hg_ hnew_; clear hg_ hnew_; (rw [← Ny141.out] at ho38); have HO143 := am (Kd.R_lower ho38 (below_size HB.out)); replace HB := am (below_step HB.out hb); clear hb ho38; obtain ⟨Ao39, co39, eo39⟩ := Kd.R_slice HO143.out; subst eo39) | ((with_reducible refine gate_callee (f := 58) rfl ?_); refine goesL_ (some 74) rfl rfl Tryd.func58 (by kernel_rfl) rfl #[.slice Ao39 y141.length co39, .int .i64 x9_3] rfl (by simp only [List.map_toArray, List.map_cons, List.map_nil]; rfl) ?_; (with_reducible refine (spec_l1Put.calls kj23 (fun k_ => some k_ = (.slice Ao39 y141.length co39 : Value).ownBlock) (.slice Ao39 y141.length co39) y141 x9_3 t144 w _ ?side1 ?side2 A36.out).mono ?_); (case side1 => repeat ((with_reducible exact HB.out))); (case side2 => exact Kd.R_tight rfl HO143.out); rintro e w40 ⟨v145, rfl, ho0, hb, hkp⟩; refine ⟨_, rfl, ?_⟩; have HO146 := am (Kd.R_mono (ok' := fun k_ => True) ho0 (fun k_ hk_ => trivial)); replace HB := am hb; clear HO143; (try clear hb); (try clear hkp); (try clear ho0); have hcv41 := own_string (P := Tryd.prog) Tryd.underlying42 Tryd.underlying5 Tryd.underlying9 (Kd.own_of_R HO146.out)))
                              go_ret2
                              exact ⟨rfl, by exact HB.out⟩
                          · replace c28 := Bool.eq_false_iff.mpr c28
                            subst c28
                            rw [if_neg nft] at H
                            by_cases c42 : x9_3 = 0
                            · rw [if_pos c42] at H
                              have c42b0 : (x9_3 == 0) = true := beq_iff_eq.mpr c42
                              have c42b1 : (x9_3 != 0) = false := bne_eq_false_iff_eq.mpr c42
                              clear c42
                              obtain ⟨y147, hy147⟩ : ∃ y_ : List Int, y_ = (([] : List Int)) := ⟨_, rfl⟩
                              replace H : ((spec_l1Put.f kj23 y147 (-1)).bind fun t150 => (some (strOfNums t150, wrap64 (x6_3 - a1)))) = some (r1, r2) := by (rw [hy147]; with_reducible exact H)
                              have Ny147 := am hy147
                              clear hy147
                              obtain ⟨t150, A43, H⟩ := bnd H
                              simp only [Option.some.injEq, Prod.mk.injEq] at H
                              obtain ⟨rfl, rfl⟩ := H
                              go_wp2_with (first | ((with_reducible refine gate_dst (N := 72) rfl ?_); refine Kd.R_lit (Kd.int .u8) _ 5 ?hg (N := 72) ?hd (xs := ([] : List Int)) (inner := []) (ok := fun _ => True) (okp := fun _ => True) ?hr ?hp (fun _ hk => hk) trivial (Below.refl _ _) (Nat.le_refl _) (by simp) ?_; (case hd => rfl); (case hg => rfl); (case hr => (go_simp; done)); (case hp => exact (Reps.none _ _)); intro v148 w44 ho45 hb hg_ hnew_; clear hg_ hnew_; (rw [← Ny147.out] at ho45); have HO149 := am (Kd.R_lower ho45 (below_size HB.out)); replace HB := am (below_step HB.out hb); clear hb ho45; obtain ⟨Ao46, co46, eo46⟩ := Kd.R_slice HO149.out; subst eo46) | ((with_reducible refine gate_callee (f := 58) rfl ?_); refine goesL_ (some 74) rfl rfl Tryd.func58 (by kernel_rfl) rfl #[.slice Ao46 y147.length co46, .int .i64 (-1)] rfl (by simp only [List.map_toArray, List.map_cons, List.map_nil]; rfl) ?_; (with_reducible refine (spec_l1Put.calls kj23 (fun k_ => some k_ = (.slice Ao46 y147.length co46 : Value).ownBlock) (.slice Ao46 y147.length co46) y147 (-1) t150 w _ ?side1 ?side2 A43.out).mono ?_); (case side1 => repeat ((with_reducible exact HB.out))); (case side2 => exact Kd.R_tight rfl HO149.out); rintro e w47 ⟨v151, rfl, ho0, hb, hkp⟩; refine ⟨_, rfl, ?_⟩; have HO152 := am (Kd.R_mono (ok' := fun k_ => True) ho0 (fun k_ hk_ => trivial)); replace HB := am hb; clear HO149; (try clear hb); (try clear hkp); (try clear ho0); have hcv48 := own_string (P := Tryd.prog) Tryd.underlying42 Tryd.underlying5 Tryd.underlying9 (Kd.own_of_R HO152.out)))
                              go_ret2
                              exact ⟨rfl, by exact HB.out⟩
                            · rw [if_neg c42] at H
                              have c42b0 : (x9_3 == 0) = false := beq_eq_false_iff_ne.mpr c42
                              have c42b1 : (x9_3 != 0) = true := bne_iff_ne.mpr c42
                              obtain ⟨y153, hy153⟩ : ∃ y_ : List Int, y_ = (([] : List Int)) := ⟨_, rfl⟩
                              replace H : ((spec_l1Put.f kj23 y153 x9_3).bind fun t156 => (some (strOfNums t156, wrap64 (x6_3 - a1)))) = some (r1, r2) := by (rw [hy153]; with_reducible exact H)
                              have Ny153 := am hy153
                              clear hy153
                              obtain ⟨t156, A49, H⟩ := bnd H
                              simp only [Option.some.injEq, Prod.mk.injEq] at H
                              obtain ⟨rfl, rfl⟩ := H
                              go_wp2_with (first | ((with_reducible refine gate_dst (N := 72) rfl ?_); refine Kd.R_lit (Kd.int .u8) _ 5 ?hg (N := 72) ?hd (xs := ([] : List Int)) (inner := []) (ok := fun _ => True) (okp := fun _ => True) ?hr ?hp (fun _ hk => hk) trivial (Below.refl _ _) (Nat.le_refl _) (by simp) ?_; (case hd => rfl); (case hg => rfl); (case hr => (go_simp; done)); (case hp => exact (Reps.none _ _)); intro v154 w50 ho51 hb hg_ hnew_; clear hg_ hnew_; (rw [← Ny153.out] at ho51); have HO155 := am (Kd.R_lower ho51 (below_size HB.out)); replace HB := am (below_step HB.out hb); clear hb ho51; obtain ⟨Ao52, co52, eo52⟩ := Kd.R_slice HO155.out; subst eo52) | ((with_reducible refine gate_callee (f := 58) rfl ?_); refine goesL_ (some 74) rfl rfl Tryd.func58 (by kernel_rfl) rfl #[.slice Ao52 y153.length co52, .int .i64 x9_3] rfl (by simp only [List.map_toArray, List.map_cons, List.map_nil]; rfl) ?_; (with_reducible refine (spec_l1Put.calls kj23 (fun k_ => some k_ = (.slice Ao52 y153.length co52 : Value).ownBlock) (.slice Ao52 y153.length co52) y153 x9_3 t156 w _ ?side1 ?side2 A49.out).mono ?_); (case side1 => repeat ((with_reducible exact HB.out))); (case side2 => exact Kd.R_tight rfl HO155.out); rintro e w53 ⟨v157, rfl, ho0, hb, hkp⟩; refine ⟨_, rfl, ?_⟩; have HO158 := am (Kd.R_mono (ok' := fun k_ => True) ho0 (fun k_ hk_ => trivial)); replace HB := am hb; clear HO155; (try clear hb); (try clear hkp); (try clear ho0); have hcv54 := own_string (P := Tryd.prog) Tryd.underlying42 Tryd.underlying5 Tryd.underlying9 (Kd.own_of_R HO158.out)))
                              go_ret2
                              exact ⟨rfl, by exact HB.out⟩
def spec_l2Names.f  : Option (List ByteArray) := some (([(⟨#[97, 109, 112]⟩ : ByteArray), (⟨#[108, 116]⟩ : ByteArray), (⟨#[103, 116]⟩ : ByteArray), (⟨#[113, 117, 111, 116]⟩ : ByteArray), (⟨#[110, 98, 115, 112]⟩ : ByteArray), (⟨#[99, 111, 112, 121]⟩ : ByteArray), (⟨#[97, 112, 111, 115]⟩ : ByteArray), (⟨#[115, 104, 121]⟩ : ByteArray), (⟨#[116, 105, 109, 101, 115]⟩ : ByteArray), (⟨#[110, 100, 97, 115, 104]⟩ : ByteArray), (⟨#[109, 100, 97, 115, 104]⟩ : ByteArray), (⟨#[104, 101, 108, 108, 105, 112]⟩ : ByteArray), (⟨#[101, 117, 114, 111]⟩ : ByteArray), (⟨#[108, 114, 109]⟩ : ByteArray), (⟨#[114, 108, 109]⟩ : ByteArray), (⟨#[122, 119, 106]⟩ : ByteArray)] : List ByteArray))
set_option maxHeartbeats 8000000 in
set_option maxRecDepth 100000 in
theorem spec_l2Names.calls  (r : List ByteArray) (w : World) (h : spec_l2Names.f  = some r) :
    Calls Tryd.prog 56 #[] w fun e w' => ∃ v0_ : Value, e = .returned (v0_) ∧ Kd.R Kd.string 9 w' w.heap.size (fun _ => True) v0_ r ∧ Below w.heap.size w w' := by
  have HB := am (Below.refl w.heap.size w)
  have H := h
  clear h
  unfold spec_l2Names.f at H
  obtain ⟨y159, hy159⟩ : ∃ y_ : List ByteArray, y_ = (([(⟨#[97, 109, 112]⟩ : ByteArray), (⟨#[108, 116]⟩ : ByteArray), (⟨#[103, 116]⟩ : ByteArray), (⟨#[113, 117, 111, 116]⟩ : ByteArray), (⟨#[110, 98, 115, 112]⟩ : ByteArray), (⟨#[99, 111, 112, 121]⟩ : ByteArray), (⟨#[97, 112, 111, 115]⟩ : ByteArray), (⟨#[115, 104, 121]⟩ : ByteArray), (⟨#[116, 105, 109, 101, 115]⟩ : ByteArray), (⟨#[110, 100, 97, 115, 104]⟩ : ByteArray), (⟨#[109, 100, 97, 115, 104]⟩ : ByteArray), (⟨#[104, 101, 108, 108, 105, 112]⟩ : ByteArray), (⟨#[101, 117, 114, 111]⟩ : ByteArray), (⟨#[108, 114, 109]⟩ : ByteArray), (⟨#[114, 108, 109]⟩ : ByteArray), (⟨#[122, 119, 106]⟩ : ByteArray)] : List ByteArray)) := ⟨_, rfl⟩
  replace H : (some y159) = some r := by (rw [hy159]; with_reducible exact H)
  have Ny159 := am hy159
  clear hy159
  obtain rfl := Option.some.inj H
  go_enter Tryd.func56, Tryd.ntmps56
  go_wp2_with (((with_reducible refine gate_dst (N := 1) rfl ?_); refine Kd.R_lit Kd.string _ 9 ?hg (N := 1) ?hd (xs := ([(⟨#[97, 109, 112]⟩ : ByteArray), (⟨#[108, 116]⟩ : ByteArray), (⟨#[103, 116]⟩ : ByteArray), (⟨#[113, 117, 111, 116]⟩ : ByteArray), (⟨#[110, 98, 115, 112]⟩ : ByteArray), (⟨#[99, 111, 112, 121]⟩ : ByteArray), (⟨#[97, 112, 111, 115]⟩ : ByteArray), (⟨#[115, 104, 121]⟩ : ByteArray), (⟨#[116, 105, 109, 101, 115]⟩ : ByteArray), (⟨#[110, 100, 97, 115, 104]⟩ : ByteArray), (⟨#[109, 100, 97, 115, 104]⟩ : ByteArray), (⟨#[104, 101, 108, 108, 105, 112]⟩ : ByteArray), (⟨#[101, 117, 114, 111]⟩ : ByteArray), (⟨#[108, 114, 109]⟩ : ByteArray), (⟨#[114, 108, 109]⟩ : ByteArray), (⟨#[122, 119, 106]⟩ : ByteArray)] : List ByteArray)) (inner := [.string (⟨#[97, 109, 112]⟩ : ByteArray), .string (⟨#[108, 116]⟩ : ByteArray), .string (⟨#[103, 116]⟩ : ByteArray), .string (⟨#[113, 117, 111, 116]⟩ : ByteArray), .string (⟨#[110, 98, 115, 112]⟩ : ByteArray), .string (⟨#[99, 111, 112, 121]⟩ : ByteArray), .string (⟨#[97, 112, 111, 115]⟩ : ByteArray), .string (⟨#[115, 104, 121]⟩ : ByteArray), .string (⟨#[116, 105, 109, 101, 115]⟩ : ByteArray), .string (⟨#[110, 100, 97, 115, 104]⟩ : ByteArray), .string (⟨#[109, 100, 97, 115, 104]⟩ : ByteArray), .string (⟨#[104, 101, 108, 108, 105, 112]⟩ : ByteArray), .string (⟨#[101, 117, 114, 111]⟩ : ByteArray), .string (⟨#[108, 114, 109]⟩ : ByteArray), .string (⟨#[114, 108, 109]⟩ : ByteArray), .string (⟨#[122, 119, 106]⟩ : ByteArray)]) (ok := fun _ => True) (okp := fun _ => True) ?hr ?hp (fun _ hk => hk) trivial (Below.refl _ _) (Nat.le_refl _) (by simp) ?_; (case hd => rfl); (case hg => rfl); (case hr => (go_simp; done)); (case hp => exact (Reps.one (show Kd.M Kd.string _ _ _ (⟨#[97, 109, 112]⟩ : ByteArray) [.string (⟨#[97, 109, 112]⟩ : ByteArray)] from rfl) (Reps.one (show Kd.M Kd.string _ _ _ (⟨#[108, 116]⟩ : ByteArray) [.string (⟨#[108, 116]⟩ : ByteArray)] from rfl) (Reps.one (show Kd.M Kd.string _ _ _ (⟨#[103, 116]⟩ : ByteArray) [.string (⟨#[103, 116]⟩ : ByteArray)] from rfl) (Reps.one (show Kd.M Kd.string _ _ _ (⟨#[113, 117, 111, 116]⟩ : ByteArray) [.string (⟨#[113, 117, 111, 116]⟩ : ByteArray)] from rfl) (Reps.one (show Kd.M Kd.string _ _ _ (⟨#[110, 98, 115, 112]⟩ : ByteArray) [.string (⟨#[110, 98, 115, 112]⟩ : ByteArray)] from rfl) (Reps.one (show Kd.M Kd.string _ _ _ (⟨#[99, 111, 112, 121]⟩ : ByteArray) [.string (⟨#[99, 111, 112, 121]⟩ : ByteArray)] from rfl) (Reps.one (show Kd.M Kd.string _ _ _ (⟨#[97, 112, 111, 115]⟩ : ByteArray) [.string (⟨#[97, 112, 111, 115]⟩ : ByteArray)] from rfl) (Reps.one (show Kd.M Kd.string _ _ _ (⟨#[115, 104, 121]⟩ : ByteArray) [.string (⟨#[115, 104, 121]⟩ : ByteArray)] from rfl) (Reps.one (show Kd.M Kd.string _ _ _ (⟨#[116, 105, 109, 101, 115]⟩ : ByteArray) [.string (⟨#[116, 105, 109, 101, 115]⟩ : ByteArray)] from rfl) (Reps.one (show Kd.M Kd.string _ _ _ (⟨#[110, 100, 97, 115, 104]⟩ : ByteArray) [.string (⟨#[110, 100, 97, 115, 104]⟩ : ByteArray)] from rfl) (Reps.one (show Kd.M Kd.string _ _ _ (⟨#[109, 100, 97, 115, 104]⟩ : ByteArray) [.string (⟨#[109, 100, 97, 115, 104]⟩ : ByteArray)] from rfl) (Reps.one (show Kd.M Kd.string _ _ _ (⟨#[104, 101, 108, 108, 105, 112]⟩ : ByteArray) [.string (⟨#[104, 101, 108, 108, 105, 112]⟩ : ByteArray)] from rfl) (Reps.one (show Kd.M Kd.string _ _ _ (⟨#[101, 117, 114, 111]⟩ : ByteArray) [.string (⟨#[101, 117, 114, 111]⟩ : ByteArray)] from rfl) (Reps.one (show Kd.M Kd.string _ _ _ (⟨#[108, 114, 109]⟩ : ByteArray) [.string (⟨#[108, 114, 109]⟩ : ByteArray)] from rfl) (Reps.one (show Kd.M Kd.string _ _ _ (⟨#[114, 108, 109]⟩ : ByteArray) [.string (⟨#[114, 108, 109]⟩ : ByteArray)] from rfl) (Reps.one (show Kd.M Kd.string _ _ _ (⟨#[122, 119, 106]⟩ : ByteArray) [.string (⟨#[122, 119, 106]⟩ : ByteArray)] from rfl) (Reps.none _ _)))))))))))))))))); intro v160 w1 ho2 hb hg_ hnew_; clear hg_ hnew_; (rw [← Ny159.out] at ho2); have HO161 := am (Kd.R_lower ho2 (below_size HB.out)); replace HB := am (below_step HB.out hb); clear hb ho2))
  go_ret
  exact ⟨_, rfl, by exact HO161.out, by exact HB.out⟩
def spec_l2Points.f  : Option (List Int) := some (([38, 60, 62, 34, 160, 169, 39, 173, 215, 8211, 8212, 8230, 8364, 8206, 8207, 8205] : List Int))
set_option maxHeartbeats 8000000 in
set_option maxRecDepth 100000 in
theorem spec_l2Points.calls  (r : List Int) (w : World) (h : spec_l2Points.f  = some r) :
    Calls Tryd.prog 59 #[] w fun e w' => ∃ v0_ : Value, e = .returned (v0_) ∧ Kd.R (Kd.int .i64) 3 w' w.heap.size (fun _ => True) v0_ r ∧ Below w.heap.size w w' := by
  have HB := am (Below.refl w.heap.size w)
  have H := h
  clear h
  unfold spec_l2Points.f at H
  obtain ⟨y162, hy162⟩ : ∃ y_ : List Int, y_ = (([38, 60, 62, 34, 160, 169, 39, 173, 215, 8211, 8212, 8230, 8364, 8206, 8207, 8205] : List Int)) := ⟨_, rfl⟩
  replace H : (some y162) = some r := by (rw [hy162]; with_reducible exact H)
  have Ny162 := am hy162
  clear hy162
  obtain rfl := Option.some.inj H
  go_enter Tryd.func59, Tryd.ntmps59
  go_wp2_with (((with_reducible refine gate_dst (N := 1) rfl ?_); refine Kd.R_lit (Kd.int .i64) _ 3 ?hg (N := 1) ?hd (xs := ([38, 60, 62, 34, 160, 169, 39, 173, 215, 8211, 8212, 8230, 8364, 8206, 8207, 8205] : List Int)) (inner := [.int .i64 38, .int .i64 60, .int .i64 62, .int .i64 34, .int .i64 160, .int .i64 169, .int .i64 39, .int .i64 173, .int .i64 215, .int .i64 8211, .int .i64 8212, .int .i64 8230, .int .i64 8364, .int .i64 8206, .int .i64 8207, .int .i64 8205]) (ok := fun _ => True) (okp := fun _ => True) ?hr ?hp (fun _ hk => hk) trivial (Below.refl _ _) (Nat.le_refl _) (by simp) ?_; (case hd => rfl); (case hg => rfl); (case hr => (go_simp; done)); (case hp => exact (Reps.one (show Kd.M (Kd.int .i64) _ _ _ 38 [.int .i64 38] from rfl) (Reps.one (show Kd.M (Kd.int .i64) _ _ _ 60 [.int .i64 60] from rfl) (Reps.one (show Kd.M (Kd.int .i64) _ _ _ 62 [.int .i64 62] from rfl) (Reps.one (show Kd.M (Kd.int .i64) _ _ _ 34 [.int .i64 34] from rfl) (Reps.one (show Kd.M (Kd.int .i64) _ _ _ 160 [.int .i64 160] from rfl) (Reps.one (show Kd.M (Kd.int .i64) _ _ _ 169 [.int .i64 169] from rfl) (Reps.one (show Kd.M (Kd.int .i64) _ _ _ 39 [.int .i64 39] from rfl) (Reps.one (show Kd.M (Kd.int .i64) _ _ _ 173 [.int .i64 173] from rfl) (Reps.one (show Kd.M (Kd.int .i64) _ _ _ 215 [.int .i64 215] from rfl) (Reps.one (show Kd.M (Kd.int .i64) _ _ _ 8211 [.int .i64 8211] from rfl) (Reps.one (show Kd.M (Kd.int .i64) _ _ _ 8212 [.int .i64 8212] from rfl) (Reps.one (show Kd.M (Kd.int .i64) _ _ _ 8230 [.int .i64 8230] from rfl) (Reps.one (show Kd.M (Kd.int .i64) _ _ _ 8364 [.int .i64 8364] from rfl) (Reps.one (show Kd.M (Kd.int .i64) _ _ _ 8206 [.int .i64 8206] from rfl) (Reps.one (show Kd.M (Kd.int .i64) _ _ _ 8207 [.int .i64 8207] from rfl) (Reps.one (show Kd.M (Kd.int .i64) _ _ _ 8205 [.int .i64 8205] from rfl) (Reps.none _ _)))))))))))))))))); intro v163 w1 ho2 hb hg_ hnew_; clear hg_ hnew_; (rw [← Ny162.out] at ho2); have HO164 := am (Kd.R_lower ho2 (below_size HB.out)); replace HB := am (below_step HB.out hb); clear hb ho2))
  go_ret
  exact ⟨_, rfl, by exact HO164.out, by exact HB.out⟩
end Go.Proofs.YtnjnoabldjodcaaDoor.PFnExactTokens
