/- Part 9 of the proof: PtF. -/
import Derived.Test.YtnjnoabldjodcaaDoorA5
import Derived.Test.YtnjnoabldjodcaaDoorA1
namespace Go.Proofs.YtnjnoabldjodcaaDoor.PFnExactTokens
open Go.RowKit Go.Proofs.YtnjnoabldjodcaaDoorW.PrintWords Go.Proofs.YtnjnoabldjodcaaDoorW.PrintLast Go.Proofs.YtnjnoabldjodcaaDoorW.PrintMore
attribute [local go_sem] max2_int min2_int max_two min_two max_three min_three max_four min_four
set_option linter.unusedVariables false
set_option linter.unusedSimpArgs false
def spec_l2Close.l0 : Nat → ByteArray → ByteArray → Int → Option (Int)
  | 0, _, _, _ => none
  | k + 1, x0, x2, x7 => if (wrap64 ((wrap64 (x7 + 2)) + (x2.size : Int))) < (x0.size : Int) then (if 0 ≤ x7 then (if x7 < (x0.size : Int) then (if (bt x0 x7) = 60 then (if 0 ≤ (wrap64 (x7 + 1)) then (if (wrap64 (x7 + 1)) < (x0.size : Int) then (if (bt x0 (wrap64 (x7 + 1))) = 47 then (if 0 ≤ (wrap64 (x7 + 2)) then (if (wrap64 (x7 + 2)) ≤ (wrap64 ((wrap64 (x7 + 2)) + (x2.size : Int))) then (if (wrap64 ((wrap64 (x7 + 2)) + (x2.size : Int))) ≤ (x0.size : Int) then ((spec_l1Lower.f k (x0.extract ((wrap64 (x7 + 2)) : Int).toNat ((wrap64 ((wrap64 (x7 + 2)) + (x2.size : Int))) : Int).toNat)).bind fun t109 => (if t109.toList = x2.toList then (if 0 ≤ (wrap64 ((wrap64 (x7 + 2)) + (x2.size : Int))) then ((spec_l2Ends.f k (bt x0 (wrap64 ((wrap64 (x7 + 2)) + (x2.size : Int)))) (⟨#[47, 62]⟩ : ByteArray)).bind fun t110 => (if t110 = true then (some x7) else (spec_l2Close.l0 k x0 x2 (wrap64 (x7 + 1))))) else (none)) else (spec_l2Close.l0 k x0 x2 (wrap64 (x7 + 1))))) else (none)) else (none)) else (none)) else (spec_l2Close.l0 k x0 x2 (wrap64 (x7 + 1)))) else (none)) else (none)) else (spec_l2Close.l0 k x0 x2 (wrap64 (x7 + 1)))) else (none)) else (none)) else (some (x0.size : Int))
def spec_l2Close.f (k : Nat) (a0 : ByteArray) (a1 : Int) (a2 : ByteArray) : Option (Int) := spec_l2Close.l0 k a0 a2 a1
theorem spec_l2Close.mono_l : ∀ k, (∀ y0 y1 y2, LeO (spec_l2Close.l0 k y0 y1 y2) (spec_l2Close.l0 (k + 1) y0 y1 y2))
  | 0 => fun _ _ _ r h => by simp [spec_l2Close.l0] at h
  | k + 1 => by
    have ih0 := spec_l2Close.mono_l k
    · intro y0 y1 y2
      unfold spec_l2Close.l0
      repeat' first
      | (with_reducible exact ih0 _ _ _)
      | (with_reducible exact spec_l1Lower.mono _ _)
      | (with_reducible exact spec_l2Ends.mono _ _ _)
      | (with_reducible exact LeO.refl _)
      | (with_reducible exact LeO.none _)
      | (with_reducible refine LeO.ite ?_ ?_)
      | (with_reducible refine LeO.bind ?_ (fun _ => ?_))
      | exact ih0 _ _ _
      | exact spec_l1Lower.mono _ _
      | exact spec_l2Ends.mono _ _ _
      | exact LeO.none _
      | refine LeO.ite ?_ ?_
      | refine LeO.bind ?_ (fun _ => ?_)
theorem spec_l2Close.mono : ∀ a0 a1 a2 k, LeO (spec_l2Close.f k a0 a1 a2) (spec_l2Close.f (k + 1) a0 a1 a2) := by
  intro a0 a1 a2 k
  have ih0 := spec_l2Close.mono_l k
  unfold spec_l2Close.f
  repeat' first
      | (with_reducible exact ih0 _ _ _)
      | (with_reducible exact spec_l1Lower.mono _ _)
      | (with_reducible exact spec_l2Ends.mono _ _ _)
      | (with_reducible exact LeO.refl _)
      | (with_reducible exact LeO.none _)
      | (with_reducible refine LeO.ite ?_ ?_)
      | (with_reducible refine LeO.bind ?_ (fun _ => ?_))
      | exact ih0 _ _ _
      | exact spec_l1Lower.mono _ _
      | exact spec_l2Ends.mono _ _ _
      | exact LeO.none _
      | refine LeO.ite ?_ ?_
      | refine LeO.bind ?_ (fun _ => ?_)
set_option maxHeartbeats 8000000 in
set_option maxRecDepth 100000 in
theorem spec_l2Close.calls (k : Nat) (a0 : ByteArray) (a1 : Int) (a2 : ByteArray) (r : Int) (w : World) (h : spec_l2Close.f k a0 a1 a2 = some r) :
    Calls Tryd.prog 10 #[.string a0, .int .i64 a1, .string a2] w fun e w' => e = .returned (.int .i64 r) ∧ Below w.heap.size w w' := by
  have HB := am (Below.refl w.heap.size w)
  have H := h
  clear h
  unfold spec_l2Close.f at H
  have H' := am H
  clear H
  go_enter Tryd.func10, Tryd.ntmps10
  go_wp2
  go_loopg [7] k (fun kq v7 w' => ∃ (x7_1 : Int), v7 = .int .i64 x7_1 ∧ Aside0 (spec_l2Close.l0 kq a0 a2 x7_1 = some r) ∧ Aside0 (kq ≤ k) ∧ Aside0 (Below w.heap.size w w'))
  case atStart => exact ⟨(a1), rfl, H', ⟨Nat.le_refl _⟩, ⟨by exact HB.out⟩⟩
  case round =>
    clear H'
    obtain ⟨x7_1, rfl, HA, HK1, HB⟩ := hrel
    cases gk with
    | zero => exact absurd HA.out (by simp [spec_l2Close.l0])
    | succ k1 =>
      have H := HA.out
      clear HA
      simp only [spec_l2Close.l0] at H
      by_cases c4 : (wrap64 ((wrap64 (x7_1 + 2)) + (a2.size : Int))) < (a0.size : Int)
      · rw [if_pos c4] at H
        have c4b0 : decide ((wrap64 ((wrap64 (x7_1 + 2)) + (a2.size : Int))) < (a0.size : Int)) = true := decide_eq_true c4
        clear c4
        obtain ⟨c5b0, H⟩ := ifn1 H
        obtain ⟨c6b0, H⟩ := ifn1 H
        by_cases c8 : (bt a0 x7_1) = 60
        · rw [if_pos c8] at H
          have c8b0 : ((bt a0 x7_1) == 60) = true := beq_iff_eq.mpr c8
          have c8b1 : ((bt a0 x7_1) != 60) = false := bne_eq_false_iff_eq.mpr c8
          clear c8
          obtain ⟨ji9, hji9⟩ : ∃ j_ : Int, (wrap64 (x7_1 + 1)) = j_ := ⟨_, rfl⟩
          rw [hji9] at H
          have hji9w : (IntKind.i64.wrap (x7_1 + 1)) = ji9 := (i64_w _).trans hji9
          obtain ⟨c10b0, H⟩ := ifn1 H
          obtain ⟨c11b0, H⟩ := ifn1 H
          by_cases c13 : (bt a0 (ji9)) = 47
          · rw [if_pos c13] at H
            have c13b0 : ((bt a0 (ji9)) == 47) = true := beq_iff_eq.mpr c13
            have c13b1 : ((bt a0 (ji9)) != 47) = false := bne_eq_false_iff_eq.mpr c13
            clear c13
            obtain ⟨ji14, hji14⟩ : ∃ j_ : Int, (wrap64 (x7_1 + 2)) = j_ := ⟨_, rfl⟩
            rw [hji14] at H
            (try rw [hji14] at c4b0)
            have hji14w : (IntKind.i64.wrap (x7_1 + 2)) = ji14 := (i64_w _).trans hji14
            obtain ⟨c15b0, c15b1, H⟩ := ifn2 H
            obtain ⟨c16, H⟩ := ifn H
            have c16b0 := eq_true c16
            have c16b1 : decide ((ji14) ≤ (wrap64 ((ji14) + (a2.size : Int)))) = true := decide_eq_true c16
            obtain ⟨c17, H⟩ := ifn H
            have c17b0 := eq_true c17
            have c17b1 : decide ((wrap64 ((ji14) + (a2.size : Int))) ≤ (a0.size : Int)) = true := decide_eq_true c17
            obtain ⟨t109, A18, H⟩ := bnd H
            by_cases c19 : t109.toList = a2.toList
            · rw [if_pos c19] at H
              have c19b0 : (t109.toList == a2.toList) = true := beq_iff_eq.mpr c19
              have c19b1 : (t109.toList != a2.toList) = false := bne_eq_false_iff_eq.mpr c19
              clear c19
              obtain ⟨ji20, hji20⟩ : ∃ j_ : Int, (wrap64 ((ji14) + (a2.size : Int))) = j_ := ⟨_, rfl⟩
              rw [hji20] at H
              (try rw [hji20] at c16b0)
              (try rw [hji20] at c16b1)
              (try rw [hji20] at c16)
              (try rw [hji20] at c17b0)
              (try rw [hji20] at c17b1)
              (try rw [hji20] at c17)
              (try rw [hji20] at A18)
              (try rw [hji20] at c4b0)
              have hji20w : (IntKind.i64.wrap ((ji14) + (a2.size : Int))) = ji20 := (i64_w _).trans hji20
              obtain ⟨c21b0, H⟩ := ifn1 H
              obtain ⟨t110, A23, H⟩ := bnd H
              obtain rfl | rfl := boo t110
              · rw [if_pos rfl] at H
                obtain rfl := Option.some.inj H
                have p7 : (0 ≤ (x7_1 : Int)) = True := dt (by with_reducible assumption)
                have q7 : (x7_1 < (a0.size : Int)) = True := dt (by with_reducible assumption)
                have hx7 := bt_at a0 x7_1
                have p12 : (0 ≤ ((ji9) : Int)) = True := dt (by with_reducible assumption)
                have q12 : ((ji9) < (a0.size : Int)) = True := dt (by with_reducible assumption)
                have hx12 := bt_at a0 (ji9)
                go_wp2_with (first | (go_at_call 26; (with_reducible refine (spec_l1Lower.calls k1 (a0.extract ((ji14) : Int).toNat ((ji20) : Int).toNat) t109 _ A18.out).mono ?_); rintro e w25 ⟨rfl, hb⟩; replace HB := am (below_step HB.out hb); (try clear hb); have p22 : (0 ≤ ((ji20) : Int)) = True := dt (by with_reducible assumption); have q22 : ((ji20) < (a0.size : Int)) = True := dt (by with_reducible assumption); have hx22 := bt_at a0 (ji20)) | (go_at_call 27; (with_reducible refine (spec_l2Ends.calls k1 (bt a0 (ji20)) (⟨#[47, 62]⟩ : ByteArray) true _ A23.out).mono ?_); rintro e w' ⟨rfl, ⟨nd, rfl⟩⟩))
                go_ret
                exact ⟨rfl, by repeat ((with_reducible first | exact HB.out | apply pw_below_drewN))⟩
              · rw [if_neg nft] at H
                have H' := am H
                clear H
                have p7 : (0 ≤ (x7_1 : Int)) = True := dt (by with_reducible assumption)
                have q7 : (x7_1 < (a0.size : Int)) = True := dt (by with_reducible assumption)
                have hx7 := bt_at a0 x7_1
                have p12 : (0 ≤ ((ji9) : Int)) = True := dt (by with_reducible assumption)
                have q12 : ((ji9) < (a0.size : Int)) = True := dt (by with_reducible assumption)
                have hx12 := bt_at a0 (ji9)
                go_wp2_with (first | (go_at_call 26; (with_reducible refine (spec_l1Lower.calls k1 (a0.extract ((ji14) : Int).toNat ((ji20) : Int).toNat) t109 _ A18.out).mono ?_); rintro e w26 ⟨rfl, hb⟩; replace HB := am (below_step HB.out hb); (try clear hb); have p22 : (0 ≤ ((ji20) : Int)) = True := dt (by with_reducible assumption); have q22 : ((ji20) < (a0.size : Int)) = True := dt (by with_reducible assumption); have hx22 := bt_at a0 (ji20)) | (go_at_call 27; (with_reducible refine (spec_l2Ends.calls k1 (bt a0 (ji20)) (⟨#[47, 62]⟩ : ByteArray) false _ A23.out).mono ?_); rintro e w' ⟨rfl, ⟨nd, rfl⟩⟩))
                go_roundg k1
                case measure => have := HK1.out; omega
                case rel => exact ⟨(ji9), rfl, H', ⟨by have := HK1.out; omega⟩, ⟨by repeat ((with_reducible first | exact HB.out | apply pw_below_drewN))⟩⟩
            · rw [if_neg c19] at H
              have c19b0 : (t109.toList == a2.toList) = false := beq_eq_false_iff_ne.mpr c19
              have c19b1 : (t109.toList != a2.toList) = true := bne_iff_ne.mpr c19
              have H' := am H
              clear H
              have p7 : (0 ≤ (x7_1 : Int)) = True := dt (by with_reducible assumption)
              have q7 : (x7_1 < (a0.size : Int)) = True := dt (by with_reducible assumption)
              have hx7 := bt_at a0 x7_1
              have p12 : (0 ≤ ((ji9) : Int)) = True := dt (by with_reducible assumption)
              have q12 : ((ji9) < (a0.size : Int)) = True := dt (by with_reducible assumption)
              have hx12 := bt_at a0 (ji9)
              go_wp2_with ((go_at_call 26; (with_reducible refine (spec_l1Lower.calls k1 (a0.extract ((ji14) : Int).toNat ((wrap64 ((ji14) + (a2.size : Int))) : Int).toNat) t109 _ A18.out).mono ?_); rintro e w27 ⟨rfl, hb⟩; replace HB := am (below_step HB.out hb); (try clear hb)))
              go_roundg k1
              case measure => have := HK1.out; omega
              case rel => exact ⟨(ji9), rfl, H', ⟨by have := HK1.out; omega⟩, ⟨by exact HB.out⟩⟩
          · rw [if_neg c13] at H
            have c13b0 : ((bt a0 (ji9)) == 47) = false := beq_eq_false_iff_ne.mpr c13
            have c13b1 : ((bt a0 (ji9)) != 47) = true := bne_iff_ne.mpr c13
            have H' := am H
            clear H
            have p7 : (0 ≤ (x7_1 : Int)) = True := dt (by with_reducible assumption)
            have q7 : (x7_1 < (a0.size : Int)) = True := dt (by with_reducible assumption)
            have hx7 := bt_at a0 x7_1
            have p12 : (0 ≤ ((ji9) : Int)) = True := dt (by with_reducible assumption)
            have q12 : ((ji9) < (a0.size : Int)) = True := dt (by with_reducible assumption)
            have hx12 := bt_at a0 (ji9)
            go_wp2
            go_roundg k1
            case measure => have := HK1.out; omega
            case rel => exact ⟨(ji9), rfl, H', ⟨by have := HK1.out; omega⟩, ⟨by exact HB.out⟩⟩
        · rw [if_neg c8] at H
          have c8b0 : ((bt a0 x7_1) == 60) = false := beq_eq_false_iff_ne.mpr c8
          have c8b1 : ((bt a0 x7_1) != 60) = true := bne_iff_ne.mpr c8
          have H' := am H
          clear H
          have p7 : (0 ≤ (x7_1 : Int)) = True := dt (by with_reducible assumption)
          have q7 : (x7_1 < (a0.size : Int)) = True := dt (by with_reducible assumption)
          have hx7 := bt_at a0 x7_1
          go_wp2
          go_roundg k1
          case measure => have := HK1.out; omega
          case rel => exact ⟨(wrap64 (x7_1 + 1)), rfl, H', ⟨by have := HK1.out; omega⟩, ⟨by exact HB.out⟩⟩
      · rw [if_neg c4] at H
        have c4b0 : decide ((wrap64 ((wrap64 (x7_1 + 2)) + (a2.size : Int))) < (a0.size : Int)) = false := decide_eq_false c4
        clear c4
        obtain rfl := Option.some.inj H
        go_wp2
        go_ret
        exact ⟨rfl, by exact HB.out⟩
theorem slice_run (s : ByteArray) (l h : Int) (w : World) (h0 : 0 ≤ l) (h1 : l ≤ h) (h2 : h ≤ (s.size : Int)) : Sem.run Tryd.prog (Instr.slice 9 (.string s) (some (.int .i64 l)) (some (.int .i64 h)) none) w = .ok (.string (s.extract l.toNat h.toNat)) w := by
  have hu := Tryd.underlying9
  have h3 : 0 ≤ h := by omega
  have h4 : l ≤ max h 0 := by omega
  simp [Instr.slice, Instr.sliceBounds, Instr.sliceBound, go_sem, run_underlying hu, h0, h1, h2, h3, h4, asIntOf]
def spec_l2Markup.j0 : Nat → ByteArray → Int → Bool → Option (Int × ByteArray × (List (S62)) × ByteArray × Bool × Int)
  | 0, _, _, _ => none
  | k + 1, x0, x1, x47 => if x47 = true then ((spec_l2Find.f k x0 (wrap64 (x1 + 9)) 62).bind fun t220 => (if 0 ≤ (wrap64 (x1 + 9)) then (if (wrap64 (x1 + 9)) ≤ t220 then (if t220 ≤ (x0.size : Int) then ((spec_l2Over.f k (x0.extract ((wrap64 (x1 + 9)) : Int).toNat (t220 : Int).toNat) 0).bind fun t221 => ((spec_l2Until.f k (x0.extract ((wrap64 (x1 + 9)) : Int).toNat (t220 : Int).toNat) t221 (⟨#[]⟩ : ByteArray)).bind fun t222 => (if 0 ≤ t221 then (if t221 ≤ t222 then (if t222 ≤ ((x0.extract ((wrap64 (x1 + 9)) : Int).toNat (t220 : Int).toNat).size : Int) then ((spec_l1Lower.f k ((x0.extract ((wrap64 (x1 + 9)) : Int).toNat (t220 : Int).toNat).extract (t221 : Int).toNat (t222 : Int).toNat)).bind fun t223 => ((spec_l2Behind.f t220 x0).bind fun t224 => (some (5, t223, ([] : List (S62)), (⟨#[]⟩ : ByteArray), false, t224)))) else (none)) else (none)) else (none)))) else (none)) else (none)) else (none))) else (if 0 ≤ (wrap64 (x1 + 1)) then (if (wrap64 (x1 + 1)) < (x0.size : Int) then (if (bt x0 (wrap64 (x1 + 1))) = 63 then ((spec_l2Find.f k x0 (wrap64 (x1 + 1)) 62).bind fun t225 => (if (wrap64 (x1 + 1)) ≤ t225 then (if t225 ≤ (x0.size : Int) then ((spec_l2Behind.f t225 x0).bind fun t226 => (some (4, (⟨#[]⟩ : ByteArray), ([] : List (S62)), x0.extract ((wrap64 (x1 + 1)) : Int).toNat (t225 : Int).toNat, false, t226))) else (none)) else (none))) else ((spec_l2Find.f k x0 (wrap64 (x1 + 2)) 62).bind fun t227 => (if 0 ≤ (wrap64 (x1 + 2)) then (if (wrap64 (x1 + 2)) ≤ t227 then (if t227 ≤ (x0.size : Int) then ((spec_l2Behind.f t227 x0).bind fun t228 => (some (4, (⟨#[]⟩ : ByteArray), ([] : List (S62)), x0.extract ((wrap64 (x1 + 2)) : Int).toNat (t227 : Int).toNat, false, t228))) else (none)) else (none)) else (none)))) else (none)) else (none))
def spec_l2Markup.f (k : Nat) (a0 : ByteArray) (a1 : Int) : Option (Int × ByteArray × (List (S62)) × ByteArray × Bool × Int) := (spec_l2Stands.f a0 a1 (⟨#[60, 33, 45, 45]⟩ : ByteArray)).bind fun t216 => (if t216 = true then ((spec_l2Comment.f k a0 (wrap64 (a1 + 4))).bind fun bt217 => (some (4, (⟨#[]⟩ : ByteArray), ([] : List (S62)), bt217.1, false, bt217.2))) else (if (wrap64 (a1 + 9)) ≤ (a0.size : Int) then (if 0 ≤ (wrap64 (a1 + 1)) then (if (wrap64 (a1 + 1)) < (a0.size : Int) then (if (bt a0 (wrap64 (a1 + 1))) = 33 then (if 0 ≤ (wrap64 (a1 + 2)) then (if (wrap64 (a1 + 2)) ≤ (wrap64 (a1 + 9)) then ((spec_l1Lower.f k (a0.extract ((wrap64 (a1 + 2)) : Int).toNat ((wrap64 (a1 + 9)) : Int).toNat)).bind fun t219 => (spec_l2Markup.j0 k a0 a1 (t219.toList == ([100, 111, 99, 116, 121, 112, 101] : List UInt8)))) else (none)) else (none)) else (spec_l2Markup.j0 k a0 a1 false)) else (none)) else (none)) else (spec_l2Markup.j0 k a0 a1 false)))
theorem spec_l2Markup.mono_l : ∀ k, (∀ y0 y1 y2, LeO (spec_l2Markup.j0 k y0 y1 y2) (spec_l2Markup.j0 (k + 1) y0 y1 y2))
  | 0 => fun _ _ _ r h => by simp [spec_l2Markup.j0] at h
  | k + 1 => by
    have ih0 := spec_l2Markup.mono_l k
    · intro y0 y1 y2
      unfold spec_l2Markup.j0
      repeat' first
      | (with_reducible exact ih0 _ _ _)
      | (with_reducible exact spec_l1Lower.mono _ _)
      | (with_reducible exact spec_l2Comment.mono _ _ _)
      | (with_reducible exact spec_l2Find.mono _ _ _ _)
      | (with_reducible exact spec_l2Over.mono _ _ _)
      | (with_reducible exact spec_l2Until.mono _ _ _ _)
      | (with_reducible exact LeO.refl _)
      | (with_reducible exact LeO.none _)
      | (with_reducible refine LeO.ite ?_ ?_)
      | (with_reducible refine LeO.bind ?_ (fun _ => ?_))
      | exact ih0 _ _ _
      | exact spec_l1Lower.mono _ _
      | exact spec_l2Comment.mono _ _ _
      | exact spec_l2Find.mono _ _ _ _
      | exact spec_l2Over.mono _ _ _
      | exact spec_l2Until.mono _ _ _ _
      | exact LeO.none _
      | refine LeO.ite ?_ ?_
      | refine LeO.bind ?_ (fun _ => ?_)
theorem spec_l2Markup.mono : ∀ a0 a1 k, LeO (spec_l2Markup.f k a0 a1) (spec_l2Markup.f (k + 1) a0 a1) := by
  intro a0 a1 k
  have ih0 := spec_l2Markup.mono_l k
  unfold spec_l2Markup.f
  repeat' first
      | (with_reducible exact ih0 _ _ _)
      | (with_reducible exact spec_l1Lower.mono _ _)
      | (with_reducible exact spec_l2Comment.mono _ _ _)
      | (with_reducible exact spec_l2Find.mono _ _ _ _)
      | (with_reducible exact spec_l2Over.mono _ _ _)
      | (with_reducible exact spec_l2Until.mono _ _ _ _)
      | (with_reducible exact LeO.refl _)
      | (with_reducible exact LeO.none _)
      | (with_reducible refine LeO.ite ?_ ?_)
      | (with_reducible refine LeO.bind ?_ (fun _ => ?_))
      | exact ih0 _ _ _
      | exact spec_l1Lower.mono _ _
      | exact spec_l2Comment.mono _ _ _
      | exact spec_l2Find.mono _ _ _ _
      | exact spec_l2Over.mono _ _ _
      | exact spec_l2Until.mono _ _ _ _
      | exact LeO.none _
      | refine LeO.ite ?_ ?_
      | refine LeO.bind ?_ (fun _ => ?_)
def spec_l2Markup.T13 : Bool × List (List Nat × List Nat) := (true, [([], []), ([], []), ([], []), ([0, 1, 2], [0, 1, 2]), ([3], [3]), ([], []), ([], []), ([5, 6], [5, 6]), ([4, 7, 0, 1, 2, 3, 4], [4]), ([7, 8, 0, 1, 2, 3, 4, 5, 6, 7, 8], [7])])
def spec_l2Markup.B13 : List Nat := [0, 0, 0, 7, 15, 0, 0, 96, 255, 511]
theorem spec_l2Markup.tab13 : rtab .any (opsOf Tryd.f16 13) = spec_l2Markup.T13 := by kernel_rfl
theorem spec_l2Markup.bits13 : waitsOk spec_l2Markup.T13.2 spec_l2Markup.B13 = true := by kernel_rfl
set_option maxHeartbeats 8000000 in
set_option maxRecDepth 100000 in
theorem spec_l2Markup.calls (k : Nat) (a0 : ByteArray) (a1 : Int) (r1 : Int) (r2 : ByteArray) (r3 : List (S62)) (r4 : ByteArray) (r5 : Bool) (r6 : Int) (w : World) (h : spec_l2Markup.f k a0 a1 = some (r1, r2, r3, r4, r5, r6)) :
    Calls Tryd.prog 16 #[.string a0, .int .i64 a1] w fun e w' => ∃ v2_ : Value, e = .returned (.tuple #[.agg #[.int .i64 r1, .string r2, v2_, .string r4, .bool r5], .int .i64 r6]) ∧ Kd.R k62 62 w' w.heap.size (fun _ => True) v2_ r3 ∧ Below w.heap.size w w' := by
  have hu36 := Tryd.underlying36
  have HB := am (Below.refl w.heap.size w)
  have H := h
  clear h
  unfold spec_l2Markup.f at H
  obtain ⟨t216, A3, H⟩ := bnd H
  obtain rfl | rfl := boo t216
  · rw [if_pos rfl] at H
    obtain ⟨⟨t217, t218⟩, A5, H⟩ := bnd H
    dsimp only at H
    simp only [Option.some.injEq, Prod.mk.injEq] at H
    obtain ⟨rfl, rfl, rfl, rfl, rfl, rfl⟩ := H
    go_enter Tryd.func16, Tryd.ntmps16
    go_wp2_with (first | ((with_reducible refine gate_dst (N := 4) rfl ?_); refine box_event ?hg (N := 4) ?hd (cs := #[.int .i64 0, .string (⟨#[]⟩ : ByteArray), .slice none 0 0, .string (⟨#[]⟩ : ByteArray), .bool false]) (t := 36) ?hr ?_; (case hd => rfl); (case hg => rfl); (case hr => (go_simp; done)); intro gb215 hg w6 hbox hb; have n0_ := am (below_step HB.out hb); have n1_ := am hbox; have n2_ := am ((by rw [hg]; exact (below_size HB.out) : w.heap.size ≤ gb215)); have n3_ := am ((by rw [hg]; exact (below_size HB.out) : w.heap.size ≤ gb215)); clear HB; have HB := n0_; have BK215 := n1_; have GW215 := n2_; have GE215 := n3_; clear n0_ n1_ n2_ n3_; clear hb hbox hg) | ((with_reducible refine gate_callee (f := 14) rfl ?_); refine goesL_ (some 15) rfl rfl Tryd.func14 (by kernel_rfl) rfl #[.string a0, .int .i64 a1, .string (⟨#[60, 33, 45, 45]⟩ : ByteArray)] rfl (by simp only [List.map_toArray, List.map_cons, List.map_nil]; rfl) ?_; (with_reducible refine (spec_l2Stands.calls a0 a1 (⟨#[60, 33, 45, 45]⟩ : ByteArray) true _ A3.out).mono ?_); rintro e w' ⟨rfl, ⟨nd, rfl⟩⟩; refine ⟨_, rfl, ?_⟩; (try (rw [drewN_self w6]; generalize hq_ : World.drewN w6 _ = w6; replace BK215 : Aside0 (w6.heap[gb215]? = some (.cells #[.int .i64 0, .string (⟨#[]⟩ : ByteArray), .slice none 0 0, .string (⟨#[]⟩ : ByteArray), .bool false] 36 (0, 0))) := ⟨by rw [← hq_]; exact (by (with_reducible repeat (refine blk_drewN ?_ _)); exact BK215.out)⟩; replace HB : Aside0 (Below w.heap.size w w6) := ⟨by rw [← hq_]; exact (by repeat ((with_reducible first | exact HB.out | apply pw_below_drewN)))⟩; clear hq_))) | ((with_reducible refine gate_callee (f := 29) rfl ?_); refine goesL_ (some 20) rfl rfl Tryd.func29 (by kernel_rfl) rfl #[.string a0, .int .i64 (wrap64 (a1 + 4))] rfl (by simp only [List.map_toArray, List.map_cons, List.map_nil]; rfl) ?_; (with_reducible refine (spec_l2Comment.calls k a0 (wrap64 (a1 + 4)) t217 t218 _ A5.out).mono ?_); rintro e w' ⟨rfl, ⟨nd, rfl⟩⟩; refine ⟨_, rfl, ?_⟩; (try (rw [drewN_self w6]; generalize hq_ : World.drewN w6 _ = w6; replace BK215 : Aside0 (w6.heap[gb215]? = some (.cells #[.int .i64 0, .string (⟨#[]⟩ : ByteArray), .slice none 0 0, .string (⟨#[]⟩ : ByteArray), .bool false] 36 (0, 0))) := ⟨by rw [← hq_]; exact (by (with_reducible repeat (refine blk_drewN ?_ _)); exact BK215.out)⟩; replace HB : Aside0 (Below w.heap.size w w6) := ⟨by rw [← hq_]; exact (by repeat ((with_reducible first | exact HB.out | apply pw_below_drewN)))⟩; clear hq_)); have hcz7_0 : w6.cell? ⟨gb215, 0, none⟩ = some (.int .i64 0) := (blk_cell BK215.out 0).trans rfl; have hcz7_1 : w6.cell? ⟨gb215, 1, none⟩ = some (.string (⟨#[]⟩ : ByteArray)) := (blk_cell BK215.out 1).trans rfl; have hcz7_2 : w6.cell? ⟨gb215, 2, none⟩ = some (.slice none 0 0) := (blk_cell BK215.out 2).trans rfl; have hcz7_3 : w6.cell? ⟨gb215, 3, none⟩ = some (.string (⟨#[]⟩ : ByteArray)) := (blk_cell BK215.out 3).trans rfl; have hcz7_4 : w6.cell? ⟨gb215, 4, none⟩ = some (.bool false) := (blk_cell BK215.out 4).trans rfl; have hfz7_0 := blk_frozen BK215.out 0; have hfz7_1 := blk_frozen BK215.out 1; have hfz7_2 := blk_frozen BK215.out 2; have hfz7_3 := blk_frozen BK215.out 3; have hfz7_4 := blk_frozen BK215.out 4))
    refine bodyPost_ret (results_ct rfl _ _ gb215 36 #[.int .i64 4, .string (⟨#[]⟩ : ByteArray), .slice none 0 0, .string t217, .bool false] (0, 0) _ rfl (by refine blk_put (cs := #[.int .i64 4, .string (⟨#[]⟩ : ByteArray), .slice none 0 0, .string t217, .bool false]) ?_ 4 _ rfl; refine blk_put (cs := #[.int .i64 4, .string (⟨#[]⟩ : ByteArray), .slice none 0 0, .string (⟨#[]⟩ : ByteArray), .bool false]) ?_ 3 _ rfl; refine blk_put (cs := #[.int .i64 4, .string (⟨#[]⟩ : ByteArray), .slice none 0 0, .string (⟨#[]⟩ : ByteArray), .bool false]) ?_ 2 _ rfl; refine blk_put (cs := #[.int .i64 4, .string (⟨#[]⟩ : ByteArray), .slice none 0 0, .string (⟨#[]⟩ : ByteArray), .bool false]) ?_ 1 _ rfl; refine blk_put (cs := #[.int .i64 0, .string (⟨#[]⟩ : ByteArray), .slice none 0 0, .string (⟨#[]⟩ : ByteArray), .bool false]) ?_ 0 _ rfl; exact BK215.out) Tryd.underlying36 rfl (by kernel_rfl)) rfl ?_
    exact ⟨_, rfl, by exact Kd.R_nil _ _ _ _ _, by repeat ((with_reducible first | exact HB.out | refine below_set ?_ GE215.out))⟩
  · rw [if_neg nft] at H
    have HC8 := am H
    clear H
    go_enter Tryd.func16, Tryd.ntmps16
    go_upto_region 4 with (first | ((with_reducible refine gate_dst (N := 4) rfl ?_); refine box_event ?hg (N := 4) ?hd (cs := #[.int .i64 0, .string (⟨#[]⟩ : ByteArray), .slice none 0 0, .string (⟨#[]⟩ : ByteArray), .bool false]) (t := 36) ?hr ?_; (case hd => rfl); (case hg => rfl); (case hr => (go_simp; done)); intro gb215 hg w9 hbox hb; have n0_ := am (below_step HB.out hb); have n1_ := am hbox; have n2_ := am ((by rw [hg]; exact (below_size HB.out) : w.heap.size ≤ gb215)); have n3_ := am ((by rw [hg]; exact (below_size HB.out) : w.heap.size ≤ gb215)); clear HB; have HB := n0_; have BK215 := n1_; have GW215 := n2_; have GE215 := n3_; clear n0_ n1_ n2_ n3_; clear hb hbox hg) | ((with_reducible refine gate_callee (f := 14) rfl ?_); refine goesL_ (some 15) rfl rfl Tryd.func14 (by kernel_rfl) rfl #[.string a0, .int .i64 a1, .string (⟨#[60, 33, 45, 45]⟩ : ByteArray)] rfl (by simp only [List.map_toArray, List.map_cons, List.map_nil]; rfl) ?_; (with_reducible refine (spec_l2Stands.calls a0 a1 (⟨#[60, 33, 45, 45]⟩ : ByteArray) false _ A3.out).mono ?_); rintro e w' ⟨rfl, ⟨nd, rfl⟩⟩; refine ⟨_, rfl, ?_⟩))
    (try simp only [Act.put, List.setIfInBounds_toArray, List.set_cons_zero, List.set_cons_succ])
    go_cut [47] (fun v47 wc => ∃ (kq : Nat) (x47_7 : Bool), v47 = .bool x47_7 ∧ Aside0 (spec_l2Markup.j0 kq a0 a1 x47_7 = some (r1, r2, r3, r4, r5, r6)) ∧ Aside0 (kq ≤ k) ∧ Aside0 (wc.heap[gb215]? = some (.cells #[.int .i64 0, .string (⟨#[]⟩ : ByteArray), (.slice none 0 0), .string (⟨#[]⟩ : ByteArray), .bool false] 36 (0, 0))) ∧ Aside0 (Below w.heap.size w wc))
    case first =>
      have H := HC8.out
      clear HC8
      by_cases c10 : (wrap64 (a1 + 9)) ≤ (a0.size : Int)
      · rw [if_pos c10] at H
        have c10b0 : decide ((wrap64 (a1 + 9)) ≤ (a0.size : Int)) = true := decide_eq_true c10
        clear c10
        obtain ⟨ji11, hji11⟩ : ∃ j_ : Int, (wrap64 (a1 + 1)) = j_ := ⟨_, rfl⟩
        rw [hji11] at H
        have hji11w : (IntKind.i64.wrap (a1 + 1)) = ji11 := (i64_w _).trans hji11
        obtain ⟨c12b0, H⟩ := ifn1 H
        obtain ⟨c13b0, H⟩ := ifn1 H
        by_cases c15 : (bt a0 (ji11)) = 33
        · rw [if_pos c15] at H
          have c15b0 : ((bt a0 (ji11)) == 33) = true := beq_iff_eq.mpr c15
          have c15b1 : ((bt a0 (ji11)) != 33) = false := bne_eq_false_iff_eq.mpr c15
          clear c15
          obtain ⟨ji16, hji16⟩ : ∃ j_ : Int, (wrap64 (a1 + 2)) = j_ := ⟨_, rfl⟩
          rw [hji16] at H
          have hji16w : (IntKind.i64.wrap (a1 + 2)) = ji16 := (i64_w _).trans hji16
          obtain ⟨c17b0, c17b1, H⟩ := ifn2 H
          obtain ⟨c18, H⟩ := ifn H
          have c18b0 := eq_true c18
          have c18b1 : decide ((ji16) ≤ (wrap64 (a1 + 9))) = true := decide_eq_true c18
          have c19b0 := eq_true (of_decide_eq_true (by with_reducible assumption) : (wrap64 (a1 + 9)) ≤ (a0.size : Int))
          obtain ⟨t219, A20, H⟩ := bnd H
          have H' := am H
          clear H
          have p14 : (0 ≤ ((ji11) : Int)) = True := dt (by with_reducible assumption)
          have q14 : ((ji11) < (a0.size : Int)) = True := dt (by with_reducible assumption)
          have hx14 := bt_at a0 (ji11)
          go_wp2_with ((go_at_call 26; (with_reducible refine (spec_l1Lower.calls k (a0.extract ((ji16) : Int).toNat ((wrap64 (a1 + 9)) : Int).toNat) t219 _ A20.out).mono ?_); rintro e w21 ⟨rfl, hb⟩; replace BK215 := am (blk_below (g := gb215) (o := .cells #[.int .i64 0, .string (⟨#[]⟩ : ByteArray), .slice none 0 0, .string (⟨#[]⟩ : ByteArray), .bool false] 36 (0, 0)) (by (with_reducible repeat (refine blk_drewN ?_ _)); exact BK215.out) hb); replace HB := am (below_step (by repeat ((with_reducible first | exact HB.out | apply pw_below_drewN))) hb); (try clear hb)))
          go_meet
          case rel => exact ⟨_, ((t219.toList == ([100, 111, 99, 116, 121, 112, 101] : List UInt8))), rfl, H', ⟨by omega⟩, ⟨by exact BK215.out⟩, ⟨by exact HB.out⟩⟩
        · rw [if_neg c15] at H
          have c15b0 : ((bt a0 (ji11)) == 33) = false := beq_eq_false_iff_ne.mpr c15
          have c15b1 : ((bt a0 (ji11)) != 33) = true := bne_iff_ne.mpr c15
          have H' := am H
          clear H
          have p14 : (0 ≤ ((ji11) : Int)) = True := dt (by with_reducible assumption)
          have q14 : ((ji11) < (a0.size : Int)) = True := dt (by with_reducible assumption)
          have hx14 := bt_at a0 (ji11)
          go_wp2
          go_meet
          case rel => exact ⟨_, (false), rfl, H', ⟨by omega⟩, ⟨by (with_reducible repeat (refine blk_drewN ?_ _)); exact BK215.out⟩, ⟨by repeat ((with_reducible first | exact HB.out | apply pw_below_drewN))⟩⟩
      · rw [if_neg c10] at H
        have c10b0 : decide ((wrap64 (a1 + 9)) ≤ (a0.size : Int)) = false := decide_eq_false c10
        clear c10
        have H' := am H
        clear H
        go_wp2
        go_meet
        case rel => exact ⟨_, (false), rfl, H', ⟨by omega⟩, ⟨by (with_reducible repeat (refine blk_drewN ?_ _)); exact BK215.out⟩, ⟨by repeat ((with_reducible first | exact HB.out | apply pw_below_drewN))⟩⟩
    case rest =>
      clear HC8
      obtain ⟨kq, x47_7, rfl, HA, HJ7, BK215, HB⟩ := hcut
      cases kq with
      | zero => exact absurd HA.out (by simp [spec_l2Markup.j0])
      | succ kj7 =>
        have H := HA.out
        clear HA
        simp only [spec_l2Markup.j0] at H
        by_cases c22 : x47_7 = true
        · subst c22
          rw [if_pos rfl] at H
          obtain ⟨t220, A23, H⟩ := bnd H
          obtain ⟨ji24, hji24⟩ : ∃ j_ : Int, (wrap64 (a1 + 9)) = j_ := ⟨_, rfl⟩
          rw [hji24] at H
          (try rw [hji24] at A23)
          have hji24w : (IntKind.i64.wrap (a1 + 9)) = ji24 := (i64_w _).trans hji24
          obtain ⟨c25b0, c25b1, H⟩ := ifn2 H
          obtain ⟨c26b0, c26b1, H⟩ := ifn2 H
          obtain ⟨c27b0, c27b1, H⟩ := ifn2 H
          obtain ⟨t221, A28, H⟩ := bnd H
          obtain ⟨t222, A29, H⟩ := bnd H
          obtain ⟨c30b0, c30b1, H⟩ := ifn2 H
          obtain ⟨c31b0, c31b1, H⟩ := ifn2 H
          obtain ⟨c32b0, c32b1, H⟩ := ifn2 H
          obtain ⟨t223, A33, H⟩ := bnd H
          obtain ⟨t224, A34, H⟩ := bnd H
          simp only [Option.some.injEq, Prod.mk.injEq] at H
          obtain ⟨rfl, rfl, rfl, rfl, rfl, rfl⟩ := H
          go_wp2_with (first | ((with_reducible refine gate_callee (f := 30) rfl ?_); refine goesL_ (some 51) rfl rfl Tryd.func30 (by kernel_rfl) rfl #[.string a0, .int .i64 ji24, .int .u8 62] rfl (by simp only [List.map_toArray, List.map_cons, List.map_nil]; rfl) ?_; (with_reducible refine (spec_l2Find.calls kj7 a0 ji24 62 t220 _ A23.out).mono ?_); rintro e w' ⟨rfl, ⟨nd, rfl⟩⟩; refine ⟨_, rfl, ?_⟩; (try (rw [drewN_self wc]; generalize hq_ : World.drewN wc _ = wc; replace BK215 : Aside0 (wc.heap[gb215]? = some (.cells #[.int .i64 0, .string (⟨#[]⟩ : ByteArray), .slice none 0 0, .string (⟨#[]⟩ : ByteArray), .bool false] 36 (0, 0))) := ⟨by rw [← hq_]; exact (by (with_reducible repeat (refine blk_drewN ?_ _)); exact BK215.out)⟩; replace HB : Aside0 (Below w.heap.size w wc) := ⟨by rw [← hq_]; exact (by repeat ((with_reducible first | exact HB.out | apply pw_below_drewN)))⟩; clear hq_))) | ((with_reducible refine gate_callee (f := 31) rfl ?_); refine goesL_ (some 58) rfl rfl Tryd.func31 (by kernel_rfl) rfl #[.string (a0.extract ((ji24) : Int).toNat (t220 : Int).toNat), .int .i64 0] rfl (by simp only [List.map_toArray, List.map_cons, List.map_nil]; rfl) ?_; (with_reducible refine (spec_l2Over.calls kj7 (a0.extract ((ji24) : Int).toNat (t220 : Int).toNat) 0 t221 _ A28.out).mono ?_); rintro e w' ⟨rfl, ⟨nd, rfl⟩⟩; refine ⟨_, rfl, ?_⟩; (try (rw [drewN_self wc]; generalize hq_ : World.drewN wc _ = wc; replace BK215 : Aside0 (wc.heap[gb215]? = some (.cells #[.int .i64 0, .string (⟨#[]⟩ : ByteArray), .slice none 0 0, .string (⟨#[]⟩ : ByteArray), .bool false] 36 (0, 0))) := ⟨by rw [← hq_]; exact (by (with_reducible repeat (refine blk_drewN ?_ _)); exact BK215.out)⟩; replace HB : Aside0 (Below w.heap.size w wc) := ⟨by rw [← hq_]; exact (by repeat ((with_reducible first | exact HB.out | apply pw_below_drewN)))⟩; clear hq_))) | ((with_reducible refine gate_callee (f := 32) rfl ?_); refine goesL_ (some 63) rfl rfl Tryd.func32 (by kernel_rfl) rfl #[.string (a0.extract ((ji24) : Int).toNat (t220 : Int).toNat), .int .i64 t221, .string (⟨#[]⟩ : ByteArray)] rfl (by simp only [List.map_toArray, List.map_cons, List.map_nil]; rfl) ?_; (with_reducible refine (spec_l2Until.calls kj7 (a0.extract ((ji24) : Int).toNat (t220 : Int).toNat) t221 (⟨#[]⟩ : ByteArray) t222 _ A29.out).mono ?_); rintro e w' ⟨rfl, ⟨nd, rfl⟩⟩; refine ⟨_, rfl, ?_⟩; (try (rw [drewN_self wc]; generalize hq_ : World.drewN wc _ = wc; replace BK215 : Aside0 (wc.heap[gb215]? = some (.cells #[.int .i64 0, .string (⟨#[]⟩ : ByteArray), .slice none 0 0, .string (⟨#[]⟩ : ByteArray), .bool false] 36 (0, 0))) := ⟨by rw [← hq_]; exact (by (with_reducible repeat (refine blk_drewN ?_ _)); exact BK215.out)⟩; replace HB : Aside0 (Below w.heap.size w wc) := ⟨by rw [← hq_]; exact (by repeat ((with_reducible first | exact HB.out | apply pw_below_drewN)))⟩; clear hq_))))
          rw [slice_run _ _ _ _ (of_eq_true c30b0) (of_eq_true c31b0) (of_eq_true c32b0)]
          go_wp2_with (first | ((with_reducible refine gate_callee (f := 26) rfl ?_); refine goesL_ (some 65) rfl rfl Tryd.func26 (by kernel_rfl) rfl #[.string ((a0.extract ((ji24) : Int).toNat (t220 : Int).toNat).extract (t221 : Int).toNat (t222 : Int).toNat)] rfl (by simp only [List.map_toArray, List.map_cons, List.map_nil]; rfl) ?_; (with_reducible refine (spec_l1Lower.calls kj7 ((a0.extract ((ji24) : Int).toNat (t220 : Int).toNat).extract (t221 : Int).toNat (t222 : Int).toNat) t223 _ A33.out).mono ?_); rintro e w35 ⟨rfl, hb⟩; refine ⟨_, rfl, ?_⟩; replace BK215 := am (blk_below (g := gb215) (o := .cells #[.int .i64 0, .string (⟨#[]⟩ : ByteArray), .slice none 0 0, .string (⟨#[]⟩ : ByteArray), .bool false] 36 (0, 0)) BK215.out hb); replace HB := am (below_step HB.out hb); (try clear hb)) | ((with_reducible refine gate_callee (f := 33) rfl ?_); refine goesL_ (some 69) rfl rfl Tryd.func33 (by kernel_rfl) rfl #[.int .i64 t220, .string a0] rfl (by simp only [List.map_toArray, List.map_cons, List.map_nil]; rfl) ?_; (with_reducible refine (spec_l2Behind.calls t220 a0 t224 _ A34.out).mono ?_); rintro e w' ⟨rfl, ⟨nd, rfl⟩⟩; refine ⟨_, rfl, ?_⟩; (try (rw [drewN_self w35]; generalize hq_ : World.drewN w35 _ = w35; replace BK215 : Aside0 (w35.heap[gb215]? = some (.cells #[.int .i64 0, .string (⟨#[]⟩ : ByteArray), .slice none 0 0, .string (⟨#[]⟩ : ByteArray), .bool false] 36 (0, 0))) := ⟨by rw [← hq_]; exact (by (with_reducible repeat (refine blk_drewN ?_ _)); exact BK215.out)⟩; replace HB : Aside0 (Below w.heap.size w w35) := ⟨by rw [← hq_]; exact (by repeat ((with_reducible first | exact HB.out | apply pw_below_drewN)))⟩; clear hq_)); have hcz36_0 : w35.cell? ⟨gb215, 0, none⟩ = some (.int .i64 0) := (blk_cell BK215.out 0).trans rfl; have hcz36_1 : w35.cell? ⟨gb215, 1, none⟩ = some (.string (⟨#[]⟩ : ByteArray)) := (blk_cell BK215.out 1).trans rfl; have hcz36_2 : w35.cell? ⟨gb215, 2, none⟩ = some (.slice none 0 0) := (blk_cell BK215.out 2).trans rfl; have hcz36_3 : w35.cell? ⟨gb215, 3, none⟩ = some (.string (⟨#[]⟩ : ByteArray)) := (blk_cell BK215.out 3).trans rfl; have hcz36_4 : w35.cell? ⟨gb215, 4, none⟩ = some (.bool false) := (blk_cell BK215.out 4).trans rfl; have hfz36_0 := blk_frozen BK215.out 0; have hfz36_1 := blk_frozen BK215.out 1; have hfz36_2 := blk_frozen BK215.out 2; have hfz36_3 := blk_frozen BK215.out 3; have hfz36_4 := blk_frozen BK215.out 4))
          refine bodyPost_ret (results_ct rfl _ _ gb215 36 #[.int .i64 5, .string t223, .slice none 0 0, .string (⟨#[]⟩ : ByteArray), .bool false] (0, 0) _ rfl (by refine blk_put (cs := #[.int .i64 5, .string t223, .slice none 0 0, .string (⟨#[]⟩ : ByteArray), .bool false]) ?_ 4 _ rfl; refine blk_put (cs := #[.int .i64 5, .string t223, .slice none 0 0, .string (⟨#[]⟩ : ByteArray), .bool false]) ?_ 3 _ rfl; refine blk_put (cs := #[.int .i64 5, .string t223, .slice none 0 0, .string (⟨#[]⟩ : ByteArray), .bool false]) ?_ 2 _ rfl; refine blk_put (cs := #[.int .i64 5, .string (⟨#[]⟩ : ByteArray), .slice none 0 0, .string (⟨#[]⟩ : ByteArray), .bool false]) ?_ 1 _ rfl; refine blk_put (cs := #[.int .i64 0, .string (⟨#[]⟩ : ByteArray), .slice none 0 0, .string (⟨#[]⟩ : ByteArray), .bool false]) ?_ 0 _ rfl; exact BK215.out) Tryd.underlying36 rfl (by kernel_rfl)) rfl ?_
          exact ⟨_, rfl, by exact Kd.R_nil _ _ _ _ _, by repeat ((with_reducible first | exact HB.out | refine below_set ?_ GE215.out))⟩
        · replace c22 := Bool.eq_false_iff.mpr c22
          subst c22
          rw [if_neg nft] at H
          obtain ⟨ji37, hji37⟩ : ∃ j_ : Int, (wrap64 (a1 + 1)) = j_ := ⟨_, rfl⟩
          rw [hji37] at H
          have hji37w : (IntKind.i64.wrap (a1 + 1)) = ji37 := (i64_w _).trans hji37
          obtain ⟨c38b0, H⟩ := ifn1 H
          obtain ⟨c39b0, H⟩ := ifn1 H
          by_cases c41 : (bt a0 (ji37)) = 63
          · rw [if_pos c41] at H
            have c41b0 : ((bt a0 (ji37)) == 63) = true := beq_iff_eq.mpr c41
            have c41b1 : ((bt a0 (ji37)) != 63) = false := bne_eq_false_iff_eq.mpr c41
            clear c41
            obtain ⟨t225, A42, H⟩ := bnd H
            have c43b0 := eq_true (of_decide_eq_true (by with_reducible assumption) : 0 ≤ (ji37))
            obtain ⟨c44b0, c44b1, H⟩ := ifn2 H
            obtain ⟨c45b0, c45b1, H⟩ := ifn2 H
            obtain ⟨t226, A46, H⟩ := bnd H
            simp only [Option.some.injEq, Prod.mk.injEq] at H
            obtain ⟨rfl, rfl, rfl, rfl, rfl, rfl⟩ := H
            have p40 : (0 ≤ ((ji37) : Int)) = True := dt (by with_reducible assumption)
            have q40 : ((ji37) < (a0.size : Int)) = True := dt (by with_reducible assumption)
            have hx40 := bt_at a0 (ji37)
            try go_wp2_with (((with_reducible refine gate_callee (f := 30) rfl ?_); refine goesL_ (some 81) rfl rfl Tryd.func30 (by kernel_rfl) rfl #[.string a0, .int .i64 ji37, .int .u8 62] rfl (by simp only [List.map_toArray, List.map_cons, List.map_nil]; rfl) ?_; (with_reducible refine (spec_l2Find.calls kj7 a0 ji37 62 t225 _ A42.out).mono ?_); rintro e w' ⟨rfl, ⟨nd, rfl⟩⟩; refine ⟨_, rfl, ?_⟩; (try (rw [drewN_self wc]; generalize hq_ : World.drewN wc _ = wc; replace BK215 : Aside0 (wc.heap[gb215]? = some (.cells #[.int .i64 0, .string (⟨#[]⟩ : ByteArray), .slice none 0 0, .string (⟨#[]⟩ : ByteArray), .bool false] 36 (0, 0))) := ⟨by rw [← hq_]; exact (by (with_reducible repeat (refine blk_drewN ?_ _)); exact BK215.out)⟩; replace HB : Aside0 (Below w.heap.size w wc) := ⟨by rw [← hq_]; exact (by repeat ((with_reducible first | exact HB.out | apply pw_below_drewN)))⟩; clear hq_))))
            have n0_ := am (blk_drew BK215.out)
            have n1_ := am (below_drew1 HB.out)
            clear BK215
            clear HB
            have BK215 := n0_
            have HB := n1_
            clear n0_ n1_
            refine start_ (n := 10) (S := fun w' => True) (ds := []) #[false, false, false, false, false, false, false, false, false, false] (by kernel_rfl) rfl rfl trivial (fun hHeld => ?_); refine with_tabW spec_l2Markup.tab13 spec_l2Markup.bits13 (fun HT_ HW_ => ?_)
            generalize wc.drew = w47 at BK215 HB hHeld ⊢
            refine pure_ (i := 0) (N := some 82) (v := ?_) (a' := ?_) #[true, false, false, false, false, false, false, false, false, false] rfl rfl (any_of HT_.out (by kernel_rfl)) (fun _ _ _ h => h) (Or.inl ⟨rfl, ?_⟩) ?_ ?_
            rotate_left
            · intro w'
              go_simp
              with_reducible rfl
            rotate_left
            · simp only [Act.put, List.setIfInBounds_toArray, List.set_cons_zero, List.set_cons_succ, i64_w, i32_w]
              rfl
            refine pure_ (i := 1) (N := some 83) (v := ?_) (a' := ?_) #[true, true, false, false, false, false, false, false, false, false] rfl rfl (any_of HT_.out (by kernel_rfl)) (fun _ _ _ h => h) (Or.inl ⟨rfl, ?_⟩) ?_ ?_
            rotate_left
            · intro w'
              go_simp
              with_reducible rfl
            rotate_left
            · simp only [Act.put, List.setIfInBounds_toArray, List.set_cons_zero, List.set_cons_succ, i64_w, i32_w]
              rfl
            refine pure_ (i := 2) (N := some 84) (v := ?_) (a' := ?_) #[true, true, true, false, false, false, false, false, false, false] rfl rfl (any_of HT_.out (by kernel_rfl)) (fun _ _ _ h => h) (Or.inl ⟨rfl, ?_⟩) ?_ ?_
            rotate_left
            · intro w'
              go_simp
              with_reducible rfl
            rotate_left
            · simp only [Act.put, List.setIfInBounds_toArray, List.set_cons_zero, List.set_cons_succ, i64_w, i32_w]
              rfl
            refine pure_ (i := 3) (N := some 85) (v := ?_) (a' := ?_) #[true, true, true, true, false, false, false, false, false, false] rfl rfl (any_of HT_.out (by kernel_rfl)) (fun _ _ _ h => h) (Or.inl ⟨rfl, ?_⟩) ?_ ?_
            rotate_left
            · intro w'
              go_simp
              with_reducible rfl
            rotate_left
            · simp only [Act.put, List.setIfInBounds_toArray, List.set_cons_zero, List.set_cons_succ, i64_w, i32_w]
              rfl
            refine pure_ (i := 4) (N := some 86) (v := ?_) (a' := ?_) #[true, true, true, true, true, false, false, false, false, false] rfl rfl (any_of HT_.out (by kernel_rfl)) (fun _ _ _ h => h) (Or.inl ⟨rfl, ?_⟩) ?_ ?_
            rotate_left
            · intro w'
              go_simp
              with_reducible rfl
            rotate_left
            · simp only [Act.put, List.setIfInBounds_toArray, List.set_cons_zero, List.set_cons_succ, i64_w, i32_w]
              rfl
            refine pure_ (i := 5) (N := some 87) (v := ?_) (a' := ?_) #[true, true, true, true, true, true, false, false, false, false] rfl rfl (any_of HT_.out (by kernel_rfl)) (fun _ _ _ h => h) (Or.inl ⟨rfl, ?_⟩) ?_ ?_
            rotate_left
            · intro w'
              go_simp
              with_reducible rfl
            rotate_left
            · simp only [Act.put, List.setIfInBounds_toArray, List.set_cons_zero, List.set_cons_succ, i64_w, i32_w]
              rfl
            refine pure_ (i := 6) (N := some 88) (v := ?_) (a' := ?_) #[true, true, true, true, true, true, true, false, false, false] rfl rfl (any_of HT_.out (by kernel_rfl)) (fun _ _ _ h => h) (Or.inl ⟨rfl, ?_⟩) ?_ ?_
            rotate_left
            · intro w'
              go_simp
              with_reducible rfl
            rotate_left
            · simp only [Act.put, List.setIfInBounds_toArray, List.set_cons_zero, List.set_cons_succ, i64_w, i32_w]
              rfl
            refine one_ (i := 7) (N := some 89) #[true, true, true, true, true, true, true, true, false, false] rfl rfl (one_of HT_.out (by kernel_rfl)) (by decide) (fun K hK => ?_)
            refine goes_ Tryd.func33 (by kernel_rfl) rfl #[.int .i64 t225, .string a0] rfl rfl rfl (by simp only [List.map_toArray, List.map_cons, List.map_nil]; rfl) ?_
            with_reducible refine (spec_l2Behind.calls t225 a0 t226 _ A46.out).mono ?_
            rintro e w' ⟨rfl, ⟨nd, rfl⟩⟩
            refine ⟨_, rfl, ?_⟩
            refine hK.out _ _ trivial (fun hHeld => ?_)
            clear hK K
            refine norm_ (a' := ?_) ?_ ?_
            rotate_left
            · show Act.put _ (some 89) _ = _
              simp only [Act.put, List.setIfInBounds_toArray, List.set_cons_zero, List.set_cons_succ, i64_w, i32_w]
              rfl
            refine one_ (i := 8) (N := none) #[true, true, true, true, true, true, true, true, true, false] rfl rfl (one_of HT_.out (by kernel_rfl)) (by decide) (fun K hK => ?_)
            have hs48 : w47.cell? ⟨gb215, 0, none⟩ = some (.int .i64 0) := (blk_cell BK215.out 0).trans rfl
            have hfs48 := blk_frozen BK215.out 0
            have hs49 : w47.cell? ⟨gb215, 1, none⟩ = some (.string (⟨#[]⟩ : ByteArray)) := (blk_cell BK215.out 1).trans rfl
            have hfs49 := blk_frozen BK215.out 1
            have hs50 : w47.cell? ⟨gb215, 2, none⟩ = some (.slice none 0 0) := (blk_cell BK215.out 2).trans rfl
            have hfs50 := blk_frozen BK215.out 2
            have hs51 : w47.cell? ⟨gb215, 3, none⟩ = some (.string (⟨#[]⟩ : ByteArray)) := (blk_cell BK215.out 3).trans rfl
            have hfs51 := blk_frozen BK215.out 3
            have hs52 : w47.cell? ⟨gb215, 4, none⟩ = some (.bool false) := (blk_cell BK215.out 4).trans rfl
            have hfs52 := blk_frozen BK215.out 4
            refine skip_ (w1 := ?_) rfl rfl ?_ ?_
            rotate_left
            · go_simp
              rfl
            refine hK.out _ _ trivial (fun hHeld => ?_)
            clear hK K
            refine pure_ (i := 9) (N := some 5) (v := ?_) (a' := ?_) #[true, true, true, true, true, true, true, true, true, true] rfl rfl (any_of HT_.out (by kernel_rfl)) (fun _ _ _ h => h) (Or.inl ⟨rfl, ?_⟩) ?_ ?_
            rotate_left
            · intro w'
              go_simp
              with_reducible rfl
            rotate_left
            · simp only [Act.put, List.setIfInBounds_toArray, List.set_cons_zero, List.set_cons_succ, i64_w, i32_w]
              rfl
            refine done_ (done_of HT_.out (by kernel_rfl)) ?_
            try go_wp2
            refine bodyPost_ret (results_ct rfl _ _ gb215 36 #[.int .i64 4, .string (⟨#[]⟩ : ByteArray), .slice none 0 0, .string (a0.extract ((ji37) : Int).toNat (t225 : Int).toNat), .bool false] (0, 0) _ rfl (by refine blk_put (cs := #[.int .i64 4, .string (⟨#[]⟩ : ByteArray), .slice none 0 0, .string (a0.extract ((ji37) : Int).toNat (t225 : Int).toNat), .bool false]) ?_ 4 _ rfl; refine blk_put (cs := #[.int .i64 4, .string (⟨#[]⟩ : ByteArray), .slice none 0 0, .string (⟨#[]⟩ : ByteArray), .bool false]) ?_ 3 _ rfl; refine blk_put (cs := #[.int .i64 4, .string (⟨#[]⟩ : ByteArray), .slice none 0 0, .string (⟨#[]⟩ : ByteArray), .bool false]) ?_ 2 _ rfl; refine blk_put (cs := #[.int .i64 4, .string (⟨#[]⟩ : ByteArray), .slice none 0 0, .string (⟨#[]⟩ : ByteArray), .bool false]) ?_ 1 _ rfl; refine blk_put (cs := #[.int .i64 0, .string (⟨#[]⟩ : ByteArray), .slice none 0 0, .string (⟨#[]⟩ : ByteArray), .bool false]) ?_ 0 _ rfl; (with_reducible repeat (refine blk_drewN ?_ _)); exact BK215.out) Tryd.underlying36 rfl (by kernel_rfl)) rfl ?_
            exact ⟨_, rfl, by exact Kd.R_nil _ _ _ _ _, by repeat ((with_reducible first | exact HB.out | apply pw_below_drewN | refine below_set ?_ GE215.out))⟩
          · rw [if_neg c41] at H
            have c41b0 : ((bt a0 (ji37)) == 63) = false := beq_eq_false_iff_ne.mpr c41
            have c41b1 : ((bt a0 (ji37)) != 63) = true := bne_iff_ne.mpr c41
            obtain ⟨t227, A53, H⟩ := bnd H
            obtain ⟨ji54, hji54⟩ : ∃ j_ : Int, (wrap64 (a1 + 2)) = j_ := ⟨_, rfl⟩
            rw [hji54] at H
            (try rw [hji54] at A53)
            have hji54w : (IntKind.i64.wrap (a1 + 2)) = ji54 := (i64_w _).trans hji54
            obtain ⟨c55b0, c55b1, H⟩ := ifn2 H
            obtain ⟨c56b0, c56b1, H⟩ := ifn2 H
            obtain ⟨c57b0, c57b1, H⟩ := ifn2 H
            obtain ⟨t228, A58, H⟩ := bnd H
            simp only [Option.some.injEq, Prod.mk.injEq] at H
            obtain ⟨rfl, rfl, rfl, rfl, rfl, rfl⟩ := H
            have p40 : (0 ≤ ((ji37) : Int)) = True := dt (by with_reducible assumption)
            have q40 : ((ji37) < (a0.size : Int)) = True := dt (by with_reducible assumption)
            have hx40 := bt_at a0 (ji37)
            try go_wp2_with (((with_reducible refine gate_callee (f := 30) rfl ?_); refine goesL_ (some 81) rfl rfl Tryd.func30 (by kernel_rfl) rfl #[.string a0, .int .i64 ji54, .int .u8 62] rfl (by simp only [List.map_toArray, List.map_cons, List.map_nil]; rfl) ?_; (with_reducible refine (spec_l2Find.calls kj7 a0 ji54 62 t227 _ A53.out).mono ?_); rintro e w' ⟨rfl, ⟨nd, rfl⟩⟩; refine ⟨_, rfl, ?_⟩; (try (rw [drewN_self wc]; generalize hq_ : World.drewN wc _ = wc; replace BK215 : Aside0 (wc.heap[gb215]? = some (.cells #[.int .i64 0, .string (⟨#[]⟩ : ByteArray), .slice none 0 0, .string (⟨#[]⟩ : ByteArray), .bool false] 36 (0, 0))) := ⟨by rw [← hq_]; exact (by (with_reducible repeat (refine blk_drewN ?_ _)); exact BK215.out)⟩; replace HB : Aside0 (Below w.heap.size w wc) := ⟨by rw [← hq_]; exact (by repeat ((with_reducible first | exact HB.out | apply pw_below_drewN)))⟩; clear hq_))))
            have n0_ := am (blk_drew BK215.out)
            have n1_ := am (below_drew1 HB.out)
            clear BK215
            clear HB
            have BK215 := n0_
            have HB := n1_
            clear n0_ n1_
            refine start_ (n := 10) (S := fun w' => True) (ds := []) #[false, false, false, false, false, false, false, false, false, false] (by kernel_rfl) rfl rfl trivial (fun hHeld => ?_); refine with_tabW spec_l2Markup.tab13 spec_l2Markup.bits13 (fun HT_ HW_ => ?_)
            generalize wc.drew = w59 at BK215 HB hHeld ⊢
            refine pure_ (i := 0) (N := some 82) (v := ?_) (a' := ?_) #[true, false, false, false, false, false, false, false, false, false] rfl rfl (any_of HT_.out (by kernel_rfl)) (fun _ _ _ h => h) (Or.inl ⟨rfl, ?_⟩) ?_ ?_
            rotate_left
            · intro w'
              go_simp
              with_reducible rfl
            rotate_left
            · simp only [Act.put, List.setIfInBounds_toArray, List.set_cons_zero, List.set_cons_succ, i64_w, i32_w]
              rfl
            refine pure_ (i := 1) (N := some 83) (v := ?_) (a' := ?_) #[true, true, false, false, false, false, false, false, false, false] rfl rfl (any_of HT_.out (by kernel_rfl)) (fun _ _ _ h => h) (Or.inl ⟨rfl, ?_⟩) ?_ ?_
            rotate_left
            · intro w'
              go_simp
              with_reducible rfl
            rotate_left
            · simp only [Act.put, List.setIfInBounds_toArray, List.set_cons_zero, List.set_cons_succ, i64_w, i32_w]
              rfl
            refine pure_ (i := 2) (N := some 84) (v := ?_) (a' := ?_) #[true, true, true, false, false, false, false, false, false, false] rfl rfl (any_of HT_.out (by kernel_rfl)) (fun _ _ _ h => h) (Or.inl ⟨rfl, ?_⟩) ?_ ?_
            rotate_left
            · intro w'
              go_simp
              with_reducible rfl
            rotate_left
            · simp only [Act.put, List.setIfInBounds_toArray, List.set_cons_zero, List.set_cons_succ, i64_w, i32_w]
              rfl
            refine pure_ (i := 3) (N := some 85) (v := ?_) (a' := ?_) #[true, true, true, true, false, false, false, false, false, false] rfl rfl (any_of HT_.out (by kernel_rfl)) (fun _ _ _ h => h) (Or.inl ⟨rfl, ?_⟩) ?_ ?_
            rotate_left
            · intro w'
              go_simp
              with_reducible rfl
            rotate_left
            · simp only [Act.put, List.setIfInBounds_toArray, List.set_cons_zero, List.set_cons_succ, i64_w, i32_w]
              rfl
            refine pure_ (i := 4) (N := some 86) (v := ?_) (a' := ?_) #[true, true, true, true, true, false, false, false, false, false] rfl rfl (any_of HT_.out (by kernel_rfl)) (fun _ _ _ h => h) (Or.inl ⟨rfl, ?_⟩) ?_ ?_
            rotate_left
            · intro w'
              go_simp
              with_reducible rfl
            rotate_left
            · simp only [Act.put, List.setIfInBounds_toArray, List.set_cons_zero, List.set_cons_succ, i64_w, i32_w]
              rfl
            refine pure_ (i := 5) (N := some 87) (v := ?_) (a' := ?_) #[true, true, true, true, true, true, false, false, false, false] rfl rfl (any_of HT_.out (by kernel_rfl)) (fun _ _ _ h => h) (Or.inl ⟨rfl, ?_⟩) ?_ ?_
            rotate_left
            · intro w'
              go_simp
              with_reducible rfl
            rotate_left
            · simp only [Act.put, List.setIfInBounds_toArray, List.set_cons_zero, List.set_cons_succ, i64_w, i32_w]
              rfl
            refine pure_ (i := 6) (N := some 88) (v := ?_) (a' := ?_) #[true, true, true, true, true, true, true, false, false, false] rfl rfl (any_of HT_.out (by kernel_rfl)) (fun _ _ _ h => h) (Or.inl ⟨rfl, ?_⟩) ?_ ?_
            rotate_left
            · intro w'
              go_simp
              with_reducible rfl
            rotate_left
            · simp only [Act.put, List.setIfInBounds_toArray, List.set_cons_zero, List.set_cons_succ, i64_w, i32_w]
              rfl
            refine one_ (i := 7) (N := some 89) #[true, true, true, true, true, true, true, true, false, false] rfl rfl (one_of HT_.out (by kernel_rfl)) (by decide) (fun K hK => ?_)
            refine goes_ Tryd.func33 (by kernel_rfl) rfl #[.int .i64 t227, .string a0] rfl rfl rfl (by simp only [List.map_toArray, List.map_cons, List.map_nil]; rfl) ?_
            with_reducible refine (spec_l2Behind.calls t227 a0 t228 _ A58.out).mono ?_
            rintro e w' ⟨rfl, ⟨nd, rfl⟩⟩
            refine ⟨_, rfl, ?_⟩
            refine hK.out _ _ trivial (fun hHeld => ?_)
            clear hK K
            refine norm_ (a' := ?_) ?_ ?_
            rotate_left
            · show Act.put _ (some 89) _ = _
              simp only [Act.put, List.setIfInBounds_toArray, List.set_cons_zero, List.set_cons_succ, i64_w, i32_w]
              rfl
            refine one_ (i := 8) (N := none) #[true, true, true, true, true, true, true, true, true, false] rfl rfl (one_of HT_.out (by kernel_rfl)) (by decide) (fun K hK => ?_)
            have hs60 : w59.cell? ⟨gb215, 0, none⟩ = some (.int .i64 0) := (blk_cell BK215.out 0).trans rfl
            have hfs60 := blk_frozen BK215.out 0
            have hs61 : w59.cell? ⟨gb215, 1, none⟩ = some (.string (⟨#[]⟩ : ByteArray)) := (blk_cell BK215.out 1).trans rfl
            have hfs61 := blk_frozen BK215.out 1
            have hs62 : w59.cell? ⟨gb215, 2, none⟩ = some (.slice none 0 0) := (blk_cell BK215.out 2).trans rfl
            have hfs62 := blk_frozen BK215.out 2
            have hs63 : w59.cell? ⟨gb215, 3, none⟩ = some (.string (⟨#[]⟩ : ByteArray)) := (blk_cell BK215.out 3).trans rfl
            have hfs63 := blk_frozen BK215.out 3
            have hs64 : w59.cell? ⟨gb215, 4, none⟩ = some (.bool false) := (blk_cell BK215.out 4).trans rfl
            have hfs64 := blk_frozen BK215.out 4
            refine skip_ (w1 := ?_) rfl rfl ?_ ?_
            rotate_left
            · go_simp
              rfl
            refine hK.out _ _ trivial (fun hHeld => ?_)
            clear hK K
            refine pure_ (i := 9) (N := some 5) (v := ?_) (a' := ?_) #[true, true, true, true, true, true, true, true, true, true] rfl rfl (any_of HT_.out (by kernel_rfl)) (fun _ _ _ h => h) (Or.inl ⟨rfl, ?_⟩) ?_ ?_
            rotate_left
            · intro w'
              go_simp
              with_reducible rfl
            rotate_left
            · simp only [Act.put, List.setIfInBounds_toArray, List.set_cons_zero, List.set_cons_succ, i64_w, i32_w]
              rfl
            refine done_ (done_of HT_.out (by kernel_rfl)) ?_
            try go_wp2
            refine bodyPost_ret (results_ct rfl _ _ gb215 36 #[.int .i64 4, .string (⟨#[]⟩ : ByteArray), .slice none 0 0, .string (a0.extract ((ji54) : Int).toNat (t227 : Int).toNat), .bool false] (0, 0) _ rfl (by refine blk_put (cs := #[.int .i64 4, .string (⟨#[]⟩ : ByteArray), .slice none 0 0, .string (a0.extract ((ji54) : Int).toNat (t227 : Int).toNat), .bool false]) ?_ 4 _ rfl; refine blk_put (cs := #[.int .i64 4, .string (⟨#[]⟩ : ByteArray), .slice none 0 0, .string (⟨#[]⟩ : ByteArray), .bool false]) ?_ 3 _ rfl; refine blk_put (cs := #[.int .i64 4, .string (⟨#[]⟩ : ByteArray), .slice none 0 0, .string (⟨#[]⟩ : ByteArray), .bool false]) ?_ 2 _ rfl; refine blk_put (cs := #[.int .i64 4, .string (⟨#[]⟩ : ByteArray), .slice none 0 0, .string (⟨#[]⟩ : ByteArray), .bool false]) ?_ 1 _ rfl; refine blk_put (cs := #[.int .i64 0, .string (⟨#[]⟩ : ByteArray), .slice none 0 0, .string (⟨#[]⟩ : ByteArray), .bool false]) ?_ 0 _ rfl; (with_reducible repeat (refine blk_drewN ?_ _)); exact BK215.out) Tryd.underlying36 rfl (by kernel_rfl)) rfl ?_
            exact ⟨_, rfl, by exact Kd.R_nil _ _ _ _ _, by repeat ((with_reducible first | exact HB.out | apply pw_below_drewN | refine below_set ?_ GE215.out))⟩
end Go.Proofs.YtnjnoabldjodcaaDoor.PFnExactTokens
