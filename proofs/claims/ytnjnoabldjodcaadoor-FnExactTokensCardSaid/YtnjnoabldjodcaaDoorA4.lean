/- Part 4 of the proof: PtD. -/
import Derived.Test.YtnjnoabldjodcaaDoorA1
import Derived.Test.YtnjnoabldjodcaaDoorA3
namespace Go.Proofs.YtnjnoabldjodcaaDoor.PFnExactTokens
open Go.RowKit Go.Proofs.YtnjnoabldjodcaaDoorW.PrintWords Go.Proofs.YtnjnoabldjodcaaDoorW.PrintLast Go.Proofs.YtnjnoabldjodcaaDoorW.PrintMore
attribute [local go_sem] max2_int min2_int max_two min_two max_three min_three max_four min_four
set_option linter.unusedVariables false
set_option linter.unusedSimpArgs false
mutual
def spec_Reference.l0 : Nat → ByteArray → Int → Bool → Int → Int → List ByteArray → Int → Option (ByteArray × Int)
  | 0, _, _, _, _, _, _, _ => none
  | k + 1, x0, x1, x2, x8, x9, x10, x11 => if x11 < (x10.length : Int) then (if 0 ≤ x11 then ((spec_l2Stands.f x0 (wrap64 (x1 + 1)) (rdOf ByteArray.empty x10 x11)).bind fun t173 => (if t173 = true then ((spec_l2Stands.f x0 (wrap64 (x1 + (wrap64 (1 + ((rdOf ByteArray.empty x10 x11).size : Int))))) (⟨#[59]⟩ : ByteArray)).bind fun t175 => (if t175 = true then (if x8 < 0 then (spec_Reference.l0 k x0 x1 x2 x11 (wrap64 ((wrap64 (1 + ((rdOf ByteArray.empty x10 x11).size : Int))) + 1)) x10 (wrap64 (x11 + 1))) else (if 0 ≤ x8 then (if x8 < (x10.length : Int) then (if ((rdOf ByteArray.empty x10 x11).size : Int) > ((rdOf ByteArray.empty x10 x8).size : Int) then (spec_Reference.l0 k x0 x1 x2 x11 (wrap64 ((wrap64 (1 + ((rdOf ByteArray.empty x10 x11).size : Int))) + 1)) x10 (wrap64 (x11 + 1))) else (spec_Reference.l0 k x0 x1 x2 x8 x9 x10 (wrap64 (x11 + 1)))) else (none)) else (none))) else (if x11 ≥ 6 then (spec_Reference.j1 k x0 x1 x2 x8 x9 x10 x11 (wrap64 (1 + ((rdOf ByteArray.empty x10 x11).size : Int))) true) else (if x2 = true then (if (wrap64 (x1 + (wrap64 (1 + ((rdOf ByteArray.empty x10 x11).size : Int))))) < (x0.size : Int) then (if 0 ≤ (wrap64 (x1 + (wrap64 (1 + ((rdOf ByteArray.empty x10 x11).size : Int))))) then ((spec_l1Letter.f (bt x0 (wrap64 (x1 + (wrap64 (1 + ((rdOf ByteArray.empty x10 x11).size : Int))))))).bind fun t178 => (if t178 = true then (spec_Reference.j1 k x0 x1 x2 x8 x9 x10 x11 (wrap64 (1 + ((rdOf ByteArray.empty x10 x11).size : Int))) true) else ((spec_l1Digit.f (bt x0 (wrap64 (x1 + (wrap64 (1 + ((rdOf ByteArray.empty x10 x11).size : Int))))))).bind fun t179 => (if t179 = true then (spec_Reference.j1 k x0 x1 x2 x8 x9 x10 x11 (wrap64 (1 + ((rdOf ByteArray.empty x10 x11).size : Int))) true) else (spec_Reference.j1 k x0 x1 x2 x8 x9 x10 x11 (wrap64 (1 + ((rdOf ByteArray.empty x10 x11).size : Int))) ((bt x0 (wrap64 (x1 + (wrap64 (1 + ((rdOf ByteArray.empty x10 x11).size : Int)))))) == 61)))))) else (none)) else (spec_Reference.j1 k x0 x1 x2 x8 x9 x10 x11 (wrap64 (1 + ((rdOf ByteArray.empty x10 x11).size : Int))) false)) else (spec_Reference.j1 k x0 x1 x2 x8 x9 x10 x11 (wrap64 (1 + ((rdOf ByteArray.empty x10 x11).size : Int))) false))))) else (spec_Reference.l0 k x0 x1 x2 x8 x9 x10 (wrap64 (x11 + 1))))) else (none)) else (if x8 < 0 then (some ((⟨#[]⟩ : ByteArray), 0)) else ((spec_l2Points.f).bind fun t185 => (if 0 ≤ x8 then (if x8 < (t185.length : Int) then ((spec_l1Put.f k (([] : List Int)) (rd t185 x8)).bind fun t189 => (some (strOfNums t189, x9))) else (none)) else (none))))
def spec_Reference.j1 : Nat → ByteArray → Int → Bool → Int → Int → List ByteArray → Int → Int → Bool → Option (ByteArray × Int)
  | 0, _, _, _, _, _, _, _, _, _ => none
  | k + 1, x0, x1, x2, x8, x9, x10, x11, x12, x84 => if x84 = true then (spec_Reference.l0 k x0 x1 x2 x8 x9 x10 (wrap64 (x11 + 1))) else (if x8 < 0 then (spec_Reference.l0 k x0 x1 x2 x11 x12 x10 (wrap64 (x11 + 1))) else (if 0 ≤ x11 then (if x11 < (x10.length : Int) then (if 0 ≤ x8 then (if x8 < (x10.length : Int) then (if ((rdOf ByteArray.empty x10 x11).size : Int) > ((rdOf ByteArray.empty x10 x8).size : Int) then (spec_Reference.l0 k x0 x1 x2 x11 x12 x10 (wrap64 (x11 + 1))) else (spec_Reference.l0 k x0 x1 x2 x8 x9 x10 (wrap64 (x11 + 1)))) else (none)) else (none)) else (none)) else (none)))
end
def spec_Reference.f (k : Nat) (a0 : ByteArray) (a1 : Int) (a2 : Bool) : Option (ByteArray × Int) := (spec_l2Stands.f a0 a1 (⟨#[38]⟩ : ByteArray)).bind fun t165 => (if t165 = true then ((spec_l2Stands.f a0 a1 (⟨#[38, 35]⟩ : ByteArray)).bind fun t166 => (if t166 = true then ((spec_l2Number.f k a0 a1).bind fun bt167 => (some (bt167.1, bt167.2))) else ((spec_l2Names.f).bind fun t169 => (spec_Reference.l0 k a0 a1 a2 (-1) 0 t169 0)))) else (some ((⟨#[]⟩ : ByteArray), 0)))
theorem spec_Reference.mono_l : ∀ k, (∀ y0 y1 y2 y3 y4 y5 y6, LeO (spec_Reference.l0 k y0 y1 y2 y3 y4 y5 y6) (spec_Reference.l0 (k + 1) y0 y1 y2 y3 y4 y5 y6)) ∧ (∀ y0 y1 y2 y3 y4 y5 y6 y7 y8, LeO (spec_Reference.j1 k y0 y1 y2 y3 y4 y5 y6 y7 y8) (spec_Reference.j1 (k + 1) y0 y1 y2 y3 y4 y5 y6 y7 y8))
  | 0 => ⟨fun _ _ _ _ _ _ _ r h => by simp [spec_Reference.l0] at h, fun _ _ _ _ _ _ _ _ _ r h => by simp [spec_Reference.j1] at h⟩
  | k + 1 => by
    obtain ⟨ih0, ih1⟩ := spec_Reference.mono_l k
    refine ⟨?_, ?_⟩
    · intro y0 y1 y2 y3 y4 y5 y6
      unfold spec_Reference.l0
      repeat' first
      | (with_reducible exact ih0 _ _ _ _ _ _ _)
      | (with_reducible exact ih1 _ _ _ _ _ _ _ _ _)
      | (with_reducible exact spec_l1Put.mono _ _ _)
      | (with_reducible exact spec_l2Number.mono _ _ _)
      | (with_reducible exact LeO.refl _)
      | (with_reducible exact LeO.none _)
      | (with_reducible refine LeO.ite ?_ ?_)
      | (with_reducible refine LeO.bind ?_ (fun _ => ?_))
      | exact ih0 _ _ _ _ _ _ _
      | exact ih1 _ _ _ _ _ _ _ _ _
      | exact spec_l1Put.mono _ _ _
      | exact spec_l2Number.mono _ _ _
      | exact LeO.none _
      | refine LeO.ite ?_ ?_
      | refine LeO.bind ?_ (fun _ => ?_)
    · intro y0 y1 y2 y3 y4 y5 y6 y7 y8
      unfold spec_Reference.j1
      repeat' first
      | (with_reducible exact ih0 _ _ _ _ _ _ _)
      | (with_reducible exact ih1 _ _ _ _ _ _ _ _ _)
      | (with_reducible exact spec_l1Put.mono _ _ _)
      | (with_reducible exact spec_l2Number.mono _ _ _)
      | (with_reducible exact LeO.refl _)
      | (with_reducible exact LeO.none _)
      | (with_reducible refine LeO.ite ?_ ?_)
      | (with_reducible refine LeO.bind ?_ (fun _ => ?_))
      | exact ih0 _ _ _ _ _ _ _
      | exact ih1 _ _ _ _ _ _ _ _ _
      | exact spec_l1Put.mono _ _ _
      | exact spec_l2Number.mono _ _ _
      | exact LeO.none _
      | refine LeO.ite ?_ ?_
      | refine LeO.bind ?_ (fun _ => ?_)
theorem spec_Reference.mono : ∀ a0 a1 a2 k, LeO (spec_Reference.f k a0 a1 a2) (spec_Reference.f (k + 1) a0 a1 a2) := by
  intro a0 a1 a2 k
  obtain ⟨ih0, ih1⟩ := spec_Reference.mono_l k
  unfold spec_Reference.f
  repeat' first
      | (with_reducible exact ih0 _ _ _ _ _ _ _)
      | (with_reducible exact ih1 _ _ _ _ _ _ _ _ _)
      | (with_reducible exact spec_l1Put.mono _ _ _)
      | (with_reducible exact spec_l2Number.mono _ _ _)
      | (with_reducible exact LeO.refl _)
      | (with_reducible exact LeO.none _)
      | (with_reducible refine LeO.ite ?_ ?_)
      | (with_reducible refine LeO.bind ?_ (fun _ => ?_))
      | exact ih0 _ _ _ _ _ _ _
      | exact ih1 _ _ _ _ _ _ _ _ _
      | exact spec_l1Put.mono _ _ _
      | exact spec_l2Number.mono _ _ _
      | exact LeO.none _
      | refine LeO.ite ?_ ?_
      | refine LeO.bind ?_ (fun _ => ?_)
set_option maxHeartbeats 8000000 in
set_option maxRecDepth 100000 in
theorem spec_Reference.calls (k : Nat) (a0 : ByteArray) (a1 : Int) (a2 : Bool) (r1 : ByteArray) (r2 : Int) (w : World) (h : spec_Reference.f k a0 a1 a2 = some (r1, r2)) :
    Calls Tryd.prog 28 #[.string a0, .int .i64 a1, .bool a2] w fun e w' => e = .returned (.tuple #[.string r1, .int .i64 r2]) ∧ Below w.heap.size w w' := by
  have HB := am (Below.refl w.heap.size w)
  have H := h
  clear h
  unfold spec_Reference.f at H
  obtain ⟨t165, A4, H⟩ := bnd H
  obtain rfl | rfl := boo t165
  · rw [if_pos rfl] at H
    obtain ⟨t166, A6, H⟩ := bnd H
    obtain rfl | rfl := boo t166
    · rw [if_pos rfl] at H
      obtain ⟨⟨t167, t168⟩, A8, H⟩ := bnd H
      dsimp only at H
      simp only [Option.some.injEq, Prod.mk.injEq] at H
      obtain ⟨rfl, rfl⟩ := H
      go_enter Tryd.func28, Tryd.ntmps28
      go_wp2_with (first | (go_at_call 14; (with_reducible refine (spec_l2Stands.calls a0 a1 (⟨#[38]⟩ : ByteArray) true _ A4.out).mono ?_); rintro e w' ⟨rfl, ⟨nd, rfl⟩⟩) | (go_at_call 14; (with_reducible refine (spec_l2Stands.calls a0 a1 (⟨#[38, 35]⟩ : ByteArray) true _ A6.out).mono ?_); rintro e w' ⟨rfl, ⟨nd, rfl⟩⟩) | (go_at_call 55; (with_reducible refine (spec_l2Number.calls k a0 a1 t167 t168 _ A8.out).mono ?_); rintro e w9 ⟨rfl, hb⟩; replace HB := am (below_step (by repeat ((with_reducible first | exact HB.out | apply pw_below_drewN))) hb); (try clear hb)))
      go_ret2
      exact ⟨rfl, by exact HB.out⟩
    · rw [if_neg nft] at H
      obtain ⟨t169, A10, H⟩ := bnd H
      have H' := am H
      clear H
      go_enter Tryd.func28, Tryd.ntmps28
      go_wp2_with (first | (go_at_call 14; (with_reducible refine (spec_l2Stands.calls a0 a1 (⟨#[38]⟩ : ByteArray) true _ A4.out).mono ?_); rintro e w' ⟨rfl, ⟨nd, rfl⟩⟩) | (go_at_call 14; (with_reducible refine (spec_l2Stands.calls a0 a1 (⟨#[38, 35]⟩ : ByteArray) false _ A6.out).mono ?_); rintro e w' ⟨rfl, ⟨nd, rfl⟩⟩) | (go_at_call 56; (with_reducible refine (spec_l2Names.calls  t169 _ A10.out).mono ?_); rintro e w11 ⟨v170, rfl, ho0, hb⟩; have HO171 := am (Kd.R_lower ho0 (below_size (by repeat ((with_reducible first | exact HB.out | apply pw_below_drewN))))); replace HB := am (below_step (by repeat ((with_reducible first | exact HB.out | apply pw_below_drewN))) hb); (try clear hb); (try clear ho0)))
      go_loopg [8, 9, 11] k (fun kq v8 v9 v11 w' => ∃ (x8_1 : Int) (x9_1 : Int) (x11_1 : Int), v8 = .int .i64 x8_1 ∧ v9 = .int .i64 x9_1 ∧ v11 = .int .i64 x11_1 ∧ Aside0 (spec_Reference.l0 kq a0 a1 a2 x8_1 x9_1 t169 x11_1 = some (r1, r2)) ∧ Aside0 (kq ≤ k) ∧ Aside0 (Kd.R Kd.string 9 w' w.heap.size (fun _ => True) v170 t169) ∧ Aside0 (Below w.heap.size w w'))
      case atStart => exact ⟨((-1)), (0), (0), rfl, rfl, rfl, H', ⟨Nat.le_refl _⟩, ⟨by exact HO171.out⟩, ⟨by exact HB.out⟩⟩
      case round =>
        clear H'
        obtain ⟨x8_1, x9_1, x11_1, rfl, rfl, rfl, HA, HK1, HO_10, HB⟩ := hrel
        cases gk with
        | zero => exact absurd HA.out (by simp [spec_Reference.l0])
        | succ k1 =>
          have H := HA.out
          clear HA
          simp only [spec_Reference.l0] at H
          by_cases c12 : x11_1 < (t169.length : Int)
          · rw [if_pos c12] at H
            have c12b0 : decide (x11_1 < (t169.length : Int)) = true := decide_eq_true c12
            clear c12
            obtain ⟨c13b0, H⟩ := ifn1 H
            obtain ⟨t173, A14, H⟩ := bnd H
            obtain rfl | rfl := boo t173
            · rw [if_pos rfl] at H
              obtain ⟨t175, A16, H⟩ := bnd H
              obtain rfl | rfl := boo t175
              · rw [if_pos rfl] at H
                by_cases c18 : x8_1 < 0
                · rw [if_pos c18] at H
                  have c18b0 : decide (x8_1 < 0) = true := decide_eq_true c18
                  clear c18
                  have H' := am H
                  clear H
                  obtain ⟨Ao19, co19, eo19⟩ := Kd.R_slice HO_10.out
                  subst eo19
                  have p172 : 0 ≤ (x11_1 : Int) := of_decide_eq_true (by with_reducible assumption)
                  have q172 : x11_1 < (t169.length : Int) := of_decide_eq_true (by with_reducible assumption)
                  obtain ⟨ad172, e172, hx172_0⟩ := Kd.at_string (Kd.R_reads' HO_10.out).2.2 x11_1 p172 q172
                  cases e172
                  replace p172 := eq_true p172
                  replace q172 := eq_true q172
                  go_wp2_with (first | (go_at_call 14; (with_reducible refine (spec_l2Stands.calls a0 (wrap64 (a1 + 1)) (rdOf ByteArray.empty t169 x11_1) true _ A14.out).mono ?_); rintro e w' ⟨rfl, ⟨nd, rfl⟩⟩; have p174 : 0 ≤ (x11_1 : Int) := of_decide_eq_true (by with_reducible assumption); have q174 : x11_1 < (t169.length : Int) := of_decide_eq_true (by with_reducible assumption); obtain ⟨ad174, e174, hx174_0⟩ := Kd.at_string (Kd.R_reads' HO_10.out).2.2 x11_1 p174 q174; obtain rfl : ad172 = ad174 := (by injection e174); replace p174 := eq_true p174; replace q174 := eq_true q174) | (go_at_call 14; (with_reducible refine (spec_l2Stands.calls a0 (wrap64 (a1 + (wrap64 (1 + ((rdOf ByteArray.empty t169 x11_1).size : Int))))) (⟨#[59]⟩ : ByteArray) true _ A16.out).mono ?_); rintro e w' ⟨rfl, ⟨nd, rfl⟩⟩))
                  repeat (go_quiet ((fail)); try go_wp2_with ((fail)))
                  go_roundg k1
                  case measure => have := HK1.out; omega
                  case rel => exact ⟨(x11_1), (wrap64 ((wrap64 (1 + ((rdOf ByteArray.empty t169 x11_1).size : Int))) + 1)), (wrap64 (x11_1 + 1)), rfl, rfl, rfl, H', ⟨by have := HK1.out; omega⟩, ⟨by (with_reducible repeat (apply Kd.R_drewN)); exact HO_10.out⟩, ⟨by repeat ((with_reducible first | exact HB.out | apply pw_below_drewN))⟩⟩
                · rw [if_neg c18] at H
                  have c18b0 : decide (x8_1 < 0) = false := decide_eq_false c18
                  clear c18
                  obtain ⟨c20b0, H⟩ := ifn1 H
                  obtain ⟨c21b0, H⟩ := ifn1 H
                  by_cases c22 : ((rdOf ByteArray.empty t169 x11_1).size : Int) > ((rdOf ByteArray.empty t169 x8_1).size : Int)
                  · rw [if_pos c22] at H
                    have c22b0 : decide (((rdOf ByteArray.empty t169 x8_1).size : Int) < ((rdOf ByteArray.empty t169 x11_1).size : Int)) = true := decide_eq_true c22
                    have c22b1 : decide ((rdOf ByteArray.empty t169 x8_1).size < (rdOf ByteArray.empty t169 x11_1).size) = true := decide_eq_true (Int.ofNat_lt.mp c22)
                    clear c22
                    have H' := am H
                    clear H
                    obtain ⟨Ao23, co23, eo23⟩ := Kd.R_slice HO_10.out
                    subst eo23
                    have p172 : 0 ≤ (x11_1 : Int) := of_decide_eq_true (by with_reducible assumption)
                    have q172 : x11_1 < (t169.length : Int) := of_decide_eq_true (by with_reducible assumption)
                    obtain ⟨ad172, e172, hx172_0⟩ := Kd.at_string (Kd.R_reads' HO_10.out).2.2 x11_1 p172 q172
                    cases e172
                    replace p172 := eq_true p172
                    replace q172 := eq_true q172
                    go_wp2_with (first | (go_at_call 14; (with_reducible refine (spec_l2Stands.calls a0 (wrap64 (a1 + 1)) (rdOf ByteArray.empty t169 x11_1) true _ A14.out).mono ?_); rintro e w' ⟨rfl, ⟨nd, rfl⟩⟩; have p174 : 0 ≤ (x11_1 : Int) := of_decide_eq_true (by with_reducible assumption); have q174 : x11_1 < (t169.length : Int) := of_decide_eq_true (by with_reducible assumption); obtain ⟨ad174, e174, hx174_0⟩ := Kd.at_string (Kd.R_reads' HO_10.out).2.2 x11_1 p174 q174; obtain rfl : ad172 = ad174 := (by injection e174); replace p174 := eq_true p174; replace q174 := eq_true q174) | (go_at_call 14; (with_reducible refine (spec_l2Stands.calls a0 (wrap64 (a1 + (wrap64 (1 + ((rdOf ByteArray.empty t169 x11_1).size : Int))))) (⟨#[59]⟩ : ByteArray) true _ A16.out).mono ?_); rintro e w' ⟨rfl, ⟨nd, rfl⟩⟩; have p176 : 0 ≤ (x11_1 : Int) := of_decide_eq_true (by with_reducible assumption); have q176 : x11_1 < (t169.length : Int) := of_decide_eq_true (by with_reducible assumption); obtain ⟨ad176, e176, hx176_0⟩ := Kd.at_string (Kd.R_reads' HO_10.out).2.2 x11_1 p176 q176; obtain rfl : ad172 = ad176 := (by injection e176); replace p176 := eq_true p176; replace q176 := eq_true q176; have p177 : 0 ≤ (x8_1 : Int) := of_decide_eq_true (by with_reducible assumption); have q177 : x8_1 < (t169.length : Int) := of_decide_eq_true (by with_reducible assumption); obtain ⟨ad177, e177, hx177_0⟩ := Kd.at_string (Kd.R_reads' HO_10.out).2.2 x8_1 p177 q177; obtain rfl : ad172 = ad177 := (by injection e177); replace p177 := eq_true p177; replace q177 := eq_true q177))
                    repeat (go_quiet ((fail)); try go_wp2_with ((fail)))
                    go_roundg k1
                    case measure => have := HK1.out; omega
                    case rel => exact ⟨(x11_1), (wrap64 ((wrap64 (1 + ((rdOf ByteArray.empty t169 x11_1).size : Int))) + 1)), (wrap64 (x11_1 + 1)), rfl, rfl, rfl, H', ⟨by have := HK1.out; omega⟩, ⟨by (with_reducible repeat (apply Kd.R_drewN)); exact HO_10.out⟩, ⟨by repeat ((with_reducible first | exact HB.out | apply pw_below_drewN))⟩⟩
                  · rw [if_neg c22] at H
                    have c22b0 : decide (((rdOf ByteArray.empty t169 x8_1).size : Int) < ((rdOf ByteArray.empty t169 x11_1).size : Int)) = false := decide_eq_false c22
                    have c22b1 : decide ((rdOf ByteArray.empty t169 x8_1).size < (rdOf ByteArray.empty t169 x11_1).size) = false := decide_eq_false (fun h => c22 (Int.ofNat_lt.mpr h))
                    clear c22
                    have H' := am H
                    clear H
                    obtain ⟨Ao24, co24, eo24⟩ := Kd.R_slice HO_10.out
                    subst eo24
                    have p172 : 0 ≤ (x11_1 : Int) := of_decide_eq_true (by with_reducible assumption)
                    have q172 : x11_1 < (t169.length : Int) := of_decide_eq_true (by with_reducible assumption)
                    obtain ⟨ad172, e172, hx172_0⟩ := Kd.at_string (Kd.R_reads' HO_10.out).2.2 x11_1 p172 q172
                    cases e172
                    replace p172 := eq_true p172
                    replace q172 := eq_true q172
                    go_wp2_with (first | (go_at_call 14; (with_reducible refine (spec_l2Stands.calls a0 (wrap64 (a1 + 1)) (rdOf ByteArray.empty t169 x11_1) true _ A14.out).mono ?_); rintro e w' ⟨rfl, ⟨nd, rfl⟩⟩; have p174 : 0 ≤ (x11_1 : Int) := of_decide_eq_true (by with_reducible assumption); have q174 : x11_1 < (t169.length : Int) := of_decide_eq_true (by with_reducible assumption); obtain ⟨ad174, e174, hx174_0⟩ := Kd.at_string (Kd.R_reads' HO_10.out).2.2 x11_1 p174 q174; obtain rfl : ad172 = ad174 := (by injection e174); replace p174 := eq_true p174; replace q174 := eq_true q174) | (go_at_call 14; (with_reducible refine (spec_l2Stands.calls a0 (wrap64 (a1 + (wrap64 (1 + ((rdOf ByteArray.empty t169 x11_1).size : Int))))) (⟨#[59]⟩ : ByteArray) true _ A16.out).mono ?_); rintro e w' ⟨rfl, ⟨nd, rfl⟩⟩; have p176 : 0 ≤ (x11_1 : Int) := of_decide_eq_true (by with_reducible assumption); have q176 : x11_1 < (t169.length : Int) := of_decide_eq_true (by with_reducible assumption); obtain ⟨ad176, e176, hx176_0⟩ := Kd.at_string (Kd.R_reads' HO_10.out).2.2 x11_1 p176 q176; obtain rfl : ad172 = ad176 := (by injection e176); replace p176 := eq_true p176; replace q176 := eq_true q176; have p177 : 0 ≤ (x8_1 : Int) := of_decide_eq_true (by with_reducible assumption); have q177 : x8_1 < (t169.length : Int) := of_decide_eq_true (by with_reducible assumption); obtain ⟨ad177, e177, hx177_0⟩ := Kd.at_string (Kd.R_reads' HO_10.out).2.2 x8_1 p177 q177; obtain rfl : ad172 = ad177 := (by injection e177); replace p177 := eq_true p177; replace q177 := eq_true q177))
                    repeat (go_quiet ((fail)); try go_wp2_with ((fail)))
                    go_roundg k1
                    case measure => have := HK1.out; omega
                    case rel => exact ⟨(x8_1), (x9_1), (wrap64 (x11_1 + 1)), rfl, rfl, rfl, H', ⟨by have := HK1.out; omega⟩, ⟨by (with_reducible repeat (apply Kd.R_drewN)); exact HO_10.out⟩, ⟨by repeat ((with_reducible first | exact HB.out | apply pw_below_drewN))⟩⟩
              · rw [if_neg nft] at H
                have HC25 := am H
                clear H
                obtain ⟨Ao26, co26, eo26⟩ := Kd.R_slice HO_10.out
                subst eo26
                have p172 : 0 ≤ (x11_1 : Int) := of_decide_eq_true (by with_reducible assumption)
                have q172 : x11_1 < (t169.length : Int) := of_decide_eq_true (by with_reducible assumption)
                obtain ⟨ad172, e172, hx172_0⟩ := Kd.at_string (Kd.R_reads' HO_10.out).2.2 x11_1 p172 q172
                cases e172
                replace p172 := eq_true p172
                replace q172 := eq_true q172
                go_upto_region 16 with (first | (go_at_call 14; (with_reducible refine (spec_l2Stands.calls a0 (wrap64 (a1 + 1)) (rdOf ByteArray.empty t169 x11_1) true _ A14.out).mono ?_); rintro e w' ⟨rfl, ⟨nd, rfl⟩⟩; have p174 : 0 ≤ (x11_1 : Int) := of_decide_eq_true (by with_reducible assumption); have q174 : x11_1 < (t169.length : Int) := of_decide_eq_true (by with_reducible assumption); obtain ⟨ad174, e174, hx174_0⟩ := Kd.at_string (Kd.R_reads' HO_10.out).2.2 x11_1 p174 q174; obtain rfl : ad172 = ad174 := (by injection e174); replace p174 := eq_true p174; replace q174 := eq_true q174) | (go_at_call 14; (with_reducible refine (spec_l2Stands.calls a0 (wrap64 (a1 + (wrap64 (1 + ((rdOf ByteArray.empty t169 x11_1).size : Int))))) (⟨#[59]⟩ : ByteArray) false _ A16.out).mono ?_); rintro e w' ⟨rfl, ⟨nd, rfl⟩⟩))
                go_cut [84] (fun v84 wc => ∃ (kq : Nat) (x84_24 : Bool), v84 = .bool x84_24 ∧ Aside0 (spec_Reference.j1 kq a0 a1 a2 x8_1 x9_1 t169 x11_1 (wrap64 (1 + ((rdOf ByteArray.empty t169 x11_1).size : Int))) x84_24 = some (r1, r2)) ∧ Aside0 (kq ≤ k1) ∧ Aside0 (Kd.R Kd.string 9 wc w.heap.size (fun _ => True) (.slice (some ad172) t169.length co26) t169) ∧ Aside0 (Below w.heap.size w wc))
                case first =>
                  have H := HC25.out
                  clear HC25
                  by_cases c27 : x11_1 ≥ 6
                  · rw [if_pos c27] at H
                    have c27b0 : decide (6 ≤ x11_1) = true := decide_eq_true c27
                    clear c27
                    have H' := am H
                    clear H
                    go_wp2
                    go_meet
                    case rel => exact ⟨_, (true), rfl, H', ⟨by have := HK1.out; omega⟩, ⟨by (with_reducible repeat (apply Kd.R_drewN)); exact HO_10.out⟩, ⟨by repeat ((with_reducible first | exact HB.out | apply pw_below_drewN))⟩⟩
                  · rw [if_neg c27] at H
                    have c27b0 : decide (6 ≤ x11_1) = false := decide_eq_false c27
                    clear c27
                    by_cases c28 : a2 = true
                    · subst c28
                      rw [if_pos rfl] at H
                      by_cases c29 : (wrap64 (a1 + (wrap64 (1 + ((rdOf ByteArray.empty t169 x11_1).size : Int))))) < (a0.size : Int)
                      · rw [if_pos c29] at H
                        have c29b0 : decide ((wrap64 (a1 + (wrap64 (1 + ((rdOf ByteArray.empty t169 x11_1).size : Int))))) < (a0.size : Int)) = true := decide_eq_true c29
                        clear c29
                        obtain ⟨ji30, hji30⟩ : ∃ j_ : Int, (wrap64 (a1 + (wrap64 (1 + ((rdOf ByteArray.empty t169 x11_1).size : Int))))) = j_ := ⟨_, rfl⟩
                        rw [hji30] at H
                        (try rw [hji30] at c29b0)
                        have hji30w : (IntKind.i64.wrap (a1 + (wrap64 (1 + ((rdOf ByteArray.empty t169 x11_1).size : Int))))) = ji30 := (i64_w _).trans hji30
                        obtain ⟨c31b0, H⟩ := ifn1 H
                        obtain ⟨t178, A33, H⟩ := bnd H
                        obtain rfl | rfl := boo t178
                        · rw [if_pos rfl] at H
                          have H' := am H
                          clear H
                          have p32 : (0 ≤ ((ji30) : Int)) = True := dt (by with_reducible assumption)
                          have q32 : ((ji30) < (a0.size : Int)) = True := dt (by with_reducible assumption)
                          have hx32 := bt_at a0 (ji30)
                          go_wp2_with ((go_at_call 15; (with_reducible refine (spec_l1Letter.calls (bt a0 (ji30)) true _ A33.out).mono ?_); rintro e w' ⟨rfl, ⟨nd, rfl⟩⟩))
                          (try subst hji30)
                          go_meet
                          case rel => exact ⟨_, (true), rfl, H', ⟨by have := HK1.out; omega⟩, ⟨by (with_reducible repeat (apply Kd.R_drewN)); exact HO_10.out⟩, ⟨by repeat ((with_reducible first | exact HB.out | apply pw_below_drewN))⟩⟩
                        · rw [if_neg nft] at H
                          obtain ⟨t179, A36, H⟩ := bnd H
                          obtain rfl | rfl := boo t179
                          · rw [if_pos rfl] at H
                            have H' := am H
                            clear H
                            have p32 : (0 ≤ ((ji30) : Int)) = True := dt (by with_reducible assumption)
                            have q32 : ((ji30) < (a0.size : Int)) = True := dt (by with_reducible assumption)
                            have hx32 := bt_at a0 (ji30)
                            go_wp2_with (first | (go_at_call 15; (with_reducible refine (spec_l1Letter.calls (bt a0 (ji30)) false _ A33.out).mono ?_); rintro e w' ⟨rfl, ⟨nd, rfl⟩⟩; have p35 : (0 ≤ ((ji30) : Int)) = True := dt (by with_reducible assumption); have q35 : ((ji30) < (a0.size : Int)) = True := dt (by with_reducible assumption); have hx35 := bt_at a0 (ji30)) | (go_at_call 57; (with_reducible refine (spec_l1Digit.calls (bt a0 (ji30)) true _ A36.out).mono ?_); rintro e w' ⟨rfl, ⟨nd, rfl⟩⟩))
                            (try subst hji30)
                            go_meet
                            case rel => exact ⟨_, (true), rfl, H', ⟨by have := HK1.out; omega⟩, ⟨by (with_reducible repeat (apply Kd.R_drewN)); exact HO_10.out⟩, ⟨by repeat ((with_reducible first | exact HB.out | apply pw_below_drewN))⟩⟩
                          · rw [if_neg nft] at H
                            have H' := am H
                            clear H
                            have p32 : (0 ≤ ((ji30) : Int)) = True := dt (by with_reducible assumption)
                            have q32 : ((ji30) < (a0.size : Int)) = True := dt (by with_reducible assumption)
                            have hx32 := bt_at a0 (ji30)
                            go_wp2_with (first | (go_at_call 15; (with_reducible refine (spec_l1Letter.calls (bt a0 (ji30)) false _ A33.out).mono ?_); rintro e w' ⟨rfl, ⟨nd, rfl⟩⟩; have p35 : (0 ≤ ((ji30) : Int)) = True := dt (by with_reducible assumption); have q35 : ((ji30) < (a0.size : Int)) = True := dt (by with_reducible assumption); have hx35 := bt_at a0 (ji30)) | (go_at_call 57; (with_reducible refine (spec_l1Digit.calls (bt a0 (ji30)) false _ A36.out).mono ?_); rintro e w' ⟨rfl, ⟨nd, rfl⟩⟩; have p38 : (0 ≤ ((ji30) : Int)) = True := dt (by with_reducible assumption); have q38 : ((ji30) < (a0.size : Int)) = True := dt (by with_reducible assumption); have hx38 := bt_at a0 (ji30)))
                            (try subst hji30)
                            go_meet
                            case rel => exact ⟨_, (((bt a0 ((wrap64 (a1 + (wrap64 (1 + ((rdOf ByteArray.empty t169 x11_1).size : Int))))))) == 61)), rfl, H', ⟨by have := HK1.out; omega⟩, ⟨by (with_reducible repeat (apply Kd.R_drewN)); exact HO_10.out⟩, ⟨by repeat ((with_reducible first | exact HB.out | apply pw_below_drewN))⟩⟩
                      · rw [if_neg c29] at H
                        have c29b0 : decide ((wrap64 (a1 + (wrap64 (1 + ((rdOf ByteArray.empty t169 x11_1).size : Int))))) < (a0.size : Int)) = false := decide_eq_false c29
                        clear c29
                        have H' := am H
                        clear H
                        go_wp2
                        go_meet
                        case rel => exact ⟨_, (false), rfl, H', ⟨by have := HK1.out; omega⟩, ⟨by (with_reducible repeat (apply Kd.R_drewN)); exact HO_10.out⟩, ⟨by repeat ((with_reducible first | exact HB.out | apply pw_below_drewN))⟩⟩
                    · replace c28 := Bool.eq_false_iff.mpr c28
                      subst c28
                      rw [if_neg nft] at H
                      have H' := am H
                      clear H
                      go_wp2
                      go_meet
                      case rel => exact ⟨_, (false), rfl, H', ⟨by have := HK1.out; omega⟩, ⟨by (with_reducible repeat (apply Kd.R_drewN)); exact HO_10.out⟩, ⟨by repeat ((with_reducible first | exact HB.out | apply pw_below_drewN))⟩⟩
                case rest =>
                  clear HC25
                  try clear c12b0
                  try clear c13b0
                  try clear hx172_0
                  try clear hx174_0
                  try clear p172
                  try clear p174
                  try clear q172
                  try clear q174
                  obtain ⟨kq, x84_24, rfl, HA, HJ24, HO_10, HB⟩ := hcut
                  cases kq with
                  | zero => exact absurd HA.out (by simp [spec_Reference.j1])
                  | succ kj24 =>
                    have H := HA.out
                    clear HA
                    simp only [spec_Reference.j1] at H
                    by_cases c39 : x84_24 = true
                    · subst c39
                      rw [if_pos rfl] at H
                      have H' := am H
                      clear H
                      go_wp2
                      go_roundg kj24
                      case measure => have := HK1.out; have := HJ24.out; omega
                      case rel => exact ⟨(x8_1), (x9_1), (wrap64 (x11_1 + 1)), rfl, rfl, rfl, H', ⟨by have := HK1.out; have := HJ24.out; omega⟩, ⟨by exact HO_10.out⟩, ⟨by exact HB.out⟩⟩
                    · replace c39 := Bool.eq_false_iff.mpr c39
                      subst c39
                      rw [if_neg nft] at H
                      by_cases c40 : x8_1 < 0
                      · rw [if_pos c40] at H
                        have c40b0 : decide (x8_1 < 0) = true := decide_eq_true c40
                        clear c40
                        have H' := am H
                        clear H
                        go_wp2
                        repeat (go_quiet (fail); try go_wp2)
                        go_roundg kj24
                        case measure => have := HK1.out; have := HJ24.out; omega
                        case rel => exact ⟨(x11_1), ((wrap64 (1 + ((rdOf ByteArray.empty t169 x11_1).size : Int)))), (wrap64 (x11_1 + 1)), rfl, rfl, rfl, H', ⟨by have := HK1.out; have := HJ24.out; omega⟩, ⟨by (with_reducible repeat (apply Kd.R_drewN)); exact HO_10.out⟩, ⟨by repeat ((with_reducible first | exact HB.out | apply pw_below_drewN))⟩⟩
                      · rw [if_neg c40] at H
                        have c40b0 : decide (x8_1 < 0) = false := decide_eq_false c40
                        clear c40
                        obtain ⟨c41b0, H⟩ := ifn1 H
                        obtain ⟨c42b0, H⟩ := ifn1 H
                        obtain ⟨c43b0, H⟩ := ifn1 H
                        obtain ⟨c44b0, H⟩ := ifn1 H
                        by_cases c45 : ((rdOf ByteArray.empty t169 x11_1).size : Int) > ((rdOf ByteArray.empty t169 x8_1).size : Int)
                        · rw [if_pos c45] at H
                          have c45b0 : decide (((rdOf ByteArray.empty t169 x8_1).size : Int) < ((rdOf ByteArray.empty t169 x11_1).size : Int)) = true := decide_eq_true c45
                          have c45b1 : decide ((rdOf ByteArray.empty t169 x8_1).size < (rdOf ByteArray.empty t169 x11_1).size) = true := decide_eq_true (Int.ofNat_lt.mp c45)
                          clear c45
                          have H' := am H
                          clear H
                          have p180 : 0 ≤ (x11_1 : Int) := of_decide_eq_true (by with_reducible assumption)
                          have q180 : x11_1 < (t169.length : Int) := of_decide_eq_true (by with_reducible assumption)
                          obtain ⟨ad180, e180, hx180_0⟩ := Kd.at_string (Kd.R_reads' HO_10.out).2.2 x11_1 p180 q180
                          obtain rfl : ad172 = ad180 := (by injection e180)
                          replace p180 := eq_true p180
                          replace q180 := eq_true q180
                          have p181 : 0 ≤ (x8_1 : Int) := of_decide_eq_true (by with_reducible assumption)
                          have q181 : x8_1 < (t169.length : Int) := of_decide_eq_true (by with_reducible assumption)
                          obtain ⟨ad181, e181, hx181_0⟩ := Kd.at_string (Kd.R_reads' HO_10.out).2.2 x8_1 p181 q181
                          obtain rfl : ad172 = ad181 := (by injection e181)
                          replace p181 := eq_true p181
                          replace q181 := eq_true q181
                          go_wp2
                          repeat (go_quiet (fail); try go_wp2)
                          go_roundg kj24
                          case measure => have := HK1.out; have := HJ24.out; omega
                          case rel => exact ⟨(x11_1), ((wrap64 (1 + ((rdOf ByteArray.empty t169 x11_1).size : Int)))), (wrap64 (x11_1 + 1)), rfl, rfl, rfl, H', ⟨by have := HK1.out; have := HJ24.out; omega⟩, ⟨by (with_reducible repeat (apply Kd.R_drewN)); exact HO_10.out⟩, ⟨by repeat ((with_reducible first | exact HB.out | apply pw_below_drewN))⟩⟩
                        · rw [if_neg c45] at H
                          have c45b0 : decide (((rdOf ByteArray.empty t169 x8_1).size : Int) < ((rdOf ByteArray.empty t169 x11_1).size : Int)) = false := decide_eq_false c45
                          have c45b1 : decide ((rdOf ByteArray.empty t169 x8_1).size < (rdOf ByteArray.empty t169 x11_1).size) = false := decide_eq_false (fun h => c45 (Int.ofNat_lt.mpr h))
                          clear c45
                          have H' := am H
                          clear H
                          have p180 : 0 ≤ (x11_1 : Int) := of_decide_eq_true (by with_reducible assumption)
                          have q180 : x11_1 < (t169.length : Int) := of_decide_eq_true (by with_reducible assumption)
                          obtain ⟨ad180, e180, hx180_0⟩ := Kd.at_string (Kd.R_reads' HO_10.out).2.2 x11_1 p180 q180
                          obtain rfl : ad172 = ad180 := (by injection e180)
                          replace p180 := eq_true p180
                          replace q180 := eq_true q180
                          have p181 : 0 ≤ (x8_1 : Int) := of_decide_eq_true (by with_reducible assumption)
                          have q181 : x8_1 < (t169.length : Int) := of_decide_eq_true (by with_reducible assumption)
                          obtain ⟨ad181, e181, hx181_0⟩ := Kd.at_string (Kd.R_reads' HO_10.out).2.2 x8_1 p181 q181
                          obtain rfl : ad172 = ad181 := (by injection e181)
                          replace p181 := eq_true p181
                          replace q181 := eq_true q181
                          go_wp2
                          repeat (go_quiet (fail); try go_wp2)
                          go_roundg kj24
                          case measure => have := HK1.out; have := HJ24.out; omega
                          case rel => exact ⟨(x8_1), (x9_1), (wrap64 (x11_1 + 1)), rfl, rfl, rfl, H', ⟨by have := HK1.out; have := HJ24.out; omega⟩, ⟨by (with_reducible repeat (apply Kd.R_drewN)); exact HO_10.out⟩, ⟨by repeat ((with_reducible first | exact HB.out | apply pw_below_drewN))⟩⟩
            · rw [if_neg nft] at H
              have H' := am H
              clear H
              obtain ⟨Ao46, co46, eo46⟩ := Kd.R_slice HO_10.out
              subst eo46
              have p172 : 0 ≤ (x11_1 : Int) := of_decide_eq_true (by with_reducible assumption)
              have q172 : x11_1 < (t169.length : Int) := of_decide_eq_true (by with_reducible assumption)
              obtain ⟨ad172, e172, hx172_0⟩ := Kd.at_string (Kd.R_reads' HO_10.out).2.2 x11_1 p172 q172
              cases e172
              replace p172 := eq_true p172
              replace q172 := eq_true q172
              go_wp2_with ((go_at_call 14; (with_reducible refine (spec_l2Stands.calls a0 (wrap64 (a1 + 1)) (rdOf ByteArray.empty t169 x11_1) false _ A14.out).mono ?_); rintro e w' ⟨rfl, ⟨nd, rfl⟩⟩))
              go_roundg k1
              case measure => have := HK1.out; omega
              case rel => exact ⟨(x8_1), (x9_1), (wrap64 (x11_1 + 1)), rfl, rfl, rfl, H', ⟨by have := HK1.out; omega⟩, ⟨by (with_reducible repeat (apply Kd.R_drewN)); exact HO_10.out⟩, ⟨by repeat ((with_reducible first | exact HB.out | apply pw_below_drewN))⟩⟩
          · rw [if_neg c12] at H
            have c12b0 : decide (x11_1 < (t169.length : Int)) = false := decide_eq_false c12
            clear c12
            by_cases c47 : x8_1 < 0
            · rw [if_pos c47] at H
              have c47b0 : decide (x8_1 < 0) = true := decide_eq_true c47
              clear c47
              simp only [Option.some.injEq, Prod.mk.injEq] at H
              obtain ⟨rfl, rfl⟩ := H
              obtain ⟨Ao48, co48, eo48⟩ := Kd.R_slice HO_10.out
              subst eo48
              go_wp2
              go_ret2
              exact ⟨rfl, by exact HB.out⟩
            · rw [if_neg c47] at H
              have c47b0 : decide (x8_1 < 0) = false := decide_eq_false c47
              clear c47
              obtain ⟨y182, hy182⟩ : ∃ y_ : List Int, y_ = (([] : List Int)) := ⟨_, rfl⟩
              replace H : ((spec_l2Points.f).bind fun t185 => (if 0 ≤ x8_1 then (if x8_1 < (t185.length : Int) then ((spec_l1Put.f k1 y182 (rd t185 x8_1)).bind fun t189 => (some (strOfNums t189, x9_1))) else (none)) else (none))) = some (r1, r2) := by (rw [hy182]; with_reducible exact H)
              have Ny182 := am hy182
              clear hy182
              obtain ⟨t185, A49, H⟩ := bnd H
              obtain ⟨c50b0, H⟩ := ifn1 H
              obtain ⟨c51b0, H⟩ := ifn1 H
              obtain ⟨t189, A52, H⟩ := bnd H
              simp only [Option.some.injEq, Prod.mk.injEq] at H
              obtain ⟨rfl, rfl⟩ := H
              obtain ⟨Ao53, co53, eo53⟩ := Kd.R_slice HO_10.out
              subst eo53
              go_wp2_with (first | ((with_reducible refine gate_dst (N := 104) rfl ?_); (try (refine gate_guard rfl ?_; dsimp only)); refine Kd.R_lit (Kd.int .u8) _ 5 ?hg (N := 104) ?hd (xs := ([] : List Int)) (inner := []) (ok := fun _ => True) (okp := fun _ => True) ?hr ?hp (fun _ hk => hk) trivial (Below.refl _ _) (Nat.le_refl _) (by simp) ?_; (case hd => rfl); (case hg => rfl); (case hr => (go_simp; done)); (case hp => exact (Reps.none _ _)); intro v183 w54 ho55 hb hg_ hnew_; clear hg_ hnew_; (rw [← Ny182.out] at ho55); replace HO_10 := am (Kd.R_below HO_10.out hb); have HO184 := am (Kd.R_lower ho55 (below_size HB.out)); replace HB := am (below_step HB.out hb); clear hb ho55) | (go_at_call 59; (with_reducible refine (spec_l2Points.calls  t185 _ A49.out).mono ?_); rintro e w56 ⟨v186, rfl, ho0, hb⟩; replace HO_10 := am (Kd.R_below HO_10.out hb); replace HO184 := am (Kd.R_below HO184.out hb); have HO187 := am (Kd.R_lower ho0 (below_size HB.out)); replace HB := am (below_step HB.out hb); (try clear hb); (try clear ho0); obtain ⟨Ao57, co57, eo57⟩ := Kd.R_slice HO187.out; subst eo57; have p188 : 0 ≤ (x8_1 : Int) := of_decide_eq_true (by with_reducible assumption); have q188 : x8_1 < (t185.length : Int) := of_decide_eq_true (by with_reducible assumption); obtain ⟨ad188, e188, hx188_0⟩ := Kd.at_int (Kd.R_reads' HO187.out).2.2 x8_1 p188 q188; cases e188; replace p188 := eq_true p188; replace q188 := eq_true q188; obtain ⟨Ao58, co58, eo58⟩ := Kd.R_slice HO184.out; subst eo58) | (go_at_call 58; (with_reducible refine (spec_l1Put.calls k1 (fun k_ => some k_ = (.slice Ao58 y182.length co58 : Value).ownBlock) (.slice Ao58 y182.length co58) y182 (rd t185 x8_1) t189 w _ ?side1 ?side2 A52.out).mono ?_); (case side1 => repeat ((with_reducible exact HB.out))); (case side2 => exact Kd.R_tight rfl HO184.out); rintro e w59 ⟨v190, rfl, ho0, hb, hkp⟩; replace HO_10 := am (Kd.R_mono (ok' := fun k_ => True) (Kd.R_keptB ((Kd.R_apart' HO_10.out (Kd.R_typed HO184.out) (by decide))) hkp (fun k_ hk_ hs_ => (hk_.2) hs_)) (fun k_ hk_ => trivial)); replace HO187 := am (Kd.R_mono (ok' := fun k_ => True) (Kd.R_keptB ((Kd.R_apart' HO187.out (Kd.R_typed HO184.out) (by decide))) hkp (fun k_ hk_ hs_ => (hk_.2) hs_)) (fun k_ hk_ => trivial)); have HO191 := am (Kd.R_mono (ok' := fun k_ => True) ho0 (fun k_ hk_ => trivial)); replace HB := am hb; clear HO184; (try clear hb); (try clear hkp); (try clear ho0); have hcv60 := own_string (P := Tryd.prog) Tryd.underlying42 Tryd.underlying5 Tryd.underlying9 (Kd.own_of_R HO191.out)))
              go_ret2
              exact ⟨rfl, by exact HB.out⟩
  · rw [if_neg nft] at H
    simp only [Option.some.injEq, Prod.mk.injEq] at H
    obtain ⟨rfl, rfl⟩ := H
    go_enter Tryd.func28, Tryd.ntmps28
    go_wp2_with ((go_at_call 14; (with_reducible refine (spec_l2Stands.calls a0 a1 (⟨#[38]⟩ : ByteArray) false _ A4.out).mono ?_); rintro e w' ⟨rfl, ⟨nd, rfl⟩⟩))
    go_ret2
    exact ⟨rfl, by repeat ((with_reducible first | exact HB.out | apply pw_below_drewN))⟩
def spec_l2Refs.l0 : Nat → ByteArray → Bool → List Int → Int → Option (ByteArray)
  | 0, _, _, _, _ => none
  | k + 1, x0, x1, x5, x6 => if x6 < (x0.size : Int) then (if 0 ≤ x6 then (if (bt x0 x6) = 38 then ((spec_Reference.f k x0 x6 x1).bind fun bt195 => (if bt195.2 > 0 then (if x5.length + bt195.1.size < 140737488355328 then (spec_l2Refs.l0 k x0 x1 (x5 ++ bytesOf bt195.1) (wrap64 (x6 + bt195.2))) else (none)) else (if x5.length < 140737488355328 then (spec_l2Refs.l0 k x0 x1 (x5 ++ [bt x0 x6]) (wrap64 (x6 + 1))) else (none)))) else (if x5.length < 140737488355328 then (spec_l2Refs.l0 k x0 x1 (x5 ++ [bt x0 x6]) (wrap64 (x6 + 1))) else (none))) else (none)) else (some (strOfNums x5))
def spec_l2Refs.f (k : Nat) (a0 : ByteArray) (a1 : Bool) : Option (ByteArray) := spec_l2Refs.l0 k a0 a1 (([] : List Int)) 0
theorem spec_l2Refs.mono_l : ∀ k, (∀ y0 y1 y2 y3, LeO (spec_l2Refs.l0 k y0 y1 y2 y3) (spec_l2Refs.l0 (k + 1) y0 y1 y2 y3))
  | 0 => fun _ _ _ _ r h => by simp [spec_l2Refs.l0] at h
  | k + 1 => by
    have ih0 := spec_l2Refs.mono_l k
    · intro y0 y1 y2 y3
      unfold spec_l2Refs.l0
      repeat' first
      | (with_reducible exact ih0 _ _ _ _)
      | (with_reducible exact spec_Reference.mono _ _ _ _)
      | (with_reducible exact LeO.refl _)
      | (with_reducible exact LeO.none _)
      | (with_reducible refine LeO.ite ?_ ?_)
      | (with_reducible refine LeO.bind ?_ (fun _ => ?_))
      | exact ih0 _ _ _ _
      | exact spec_Reference.mono _ _ _ _
      | exact LeO.none _
      | refine LeO.ite ?_ ?_
      | refine LeO.bind ?_ (fun _ => ?_)
theorem spec_l2Refs.mono : ∀ a0 a1 k, LeO (spec_l2Refs.f k a0 a1) (spec_l2Refs.f (k + 1) a0 a1) := by
  intro a0 a1 k
  have ih0 := spec_l2Refs.mono_l k
  unfold spec_l2Refs.f
  repeat' first
      | (with_reducible exact ih0 _ _ _ _)
      | (with_reducible exact spec_Reference.mono _ _ _ _)
      | (with_reducible exact LeO.refl _)
      | (with_reducible exact LeO.none _)
      | (with_reducible refine LeO.ite ?_ ?_)
      | (with_reducible refine LeO.bind ?_ (fun _ => ?_))
      | exact ih0 _ _ _ _
      | exact spec_Reference.mono _ _ _ _
      | exact LeO.none _
      | refine LeO.ite ?_ ?_
      | refine LeO.bind ?_ (fun _ => ?_)
set_option maxHeartbeats 8000000 in
set_option maxRecDepth 100000 in
theorem spec_l2Refs.calls (k : Nat) (a0 : ByteArray) (a1 : Bool) (r : ByteArray) (w : World) (h : spec_l2Refs.f k a0 a1 = some r) :
    Calls Tryd.prog 11 #[.string a0, .bool a1] w fun e w' => e = .returned (.string r) ∧ Below w.heap.size w w' := by
  have HB := am (Below.refl w.heap.size w)
  have H := h
  clear h
  unfold spec_l2Refs.f at H
  obtain ⟨y192, hy192⟩ : ∃ y_ : List Int, y_ = (([] : List Int)) := ⟨_, rfl⟩
  replace H : (spec_l2Refs.l0 k a0 a1 y192 0) = some r := by (rw [hy192]; with_reducible exact H)
  have Ny192 := am hy192
  clear hy192
  have H' := am H
  clear H
  go_enter Tryd.func11, Tryd.ntmps11
  go_wp2_with (((with_reducible refine gate_dst (N := 9) rfl ?_); refine Kd.R_lit (Kd.int .u8) _ 5 ?hg (N := 9) ?hd (xs := ([] : List Int)) (inner := []) (ok := fun _ => True) (okp := fun _ => True) ?hr ?hp (fun _ hk => hk) trivial (Below.refl _ _) (Nat.le_refl _) (by simp) ?_; (case hd => rfl); (case hg => rfl); (case hr => (go_simp; done)); (case hp => exact (Reps.none _ _)); intro v193 w3 ho4 hb hg_ hnew_; clear hg_ hnew_; (rw [← Ny192.out] at ho4); have HO194 := am (Kd.R_lower ho4 (below_size HB.out)); replace HB := am (below_step HB.out hb); clear hb ho4))
  go_loopg [5, 6] k (fun kq v5 v6 w' => ∃ (x5_1 : List Int) (x6_1 : Int), v6 = .int .i64 x6_1 ∧ Aside0 (spec_l2Refs.l0 kq a0 a1 x5_1 x6_1 = some r) ∧ Aside0 (kq ≤ k) ∧ Aside0 (Kd.R (Kd.int .u8) 5 w' w.heap.size (fun _ => True) v5 x5_1) ∧ Aside0 (Below w.heap.size w w'))
  case atStart => exact ⟨(y192), (0), rfl, H', ⟨Nat.le_refl _⟩, ⟨by exact HO194.out⟩, ⟨by exact HB.out⟩⟩
  case round =>
    clear H'
    obtain ⟨x5_1, x6_1, rfl, HA, HK1, HO_5, HB⟩ := hrel
    cases gk with
    | zero => exact absurd HA.out (by simp [spec_l2Refs.l0])
    | succ k1 =>
      have H := HA.out
      clear HA
      simp only [spec_l2Refs.l0] at H
      by_cases c5 : x6_1 < (a0.size : Int)
      · rw [if_pos c5] at H
        have c5b0 : decide (x6_1 < (a0.size : Int)) = true := decide_eq_true c5
        clear c5
        obtain ⟨c6b0, H⟩ := ifn1 H
        by_cases c8 : (bt a0 x6_1) = 38
        · rw [if_pos c8] at H
          have c8b0 : ((bt a0 x6_1) == 38) = true := beq_iff_eq.mpr c8
          have c8b1 : ((bt a0 x6_1) != 38) = false := bne_eq_false_iff_eq.mpr c8
          clear c8
          obtain ⟨⟨t195, t196⟩, A9, H⟩ := bnd H
          dsimp only at H
          by_cases c10 : t196 > 0
          · rw [if_pos c10] at H
            have c10b0 : decide (0 < t196) = true := decide_eq_true c10
            clear c10
            obtain ⟨c11, H⟩ := ifn H
            have LMc11 := am c11
            clear c11
            obtain ⟨y197, hy197⟩ : ∃ y_ : List Int, y_ = (x5_1 ++ bytesOf t195) := ⟨_, rfl⟩
            replace H : (spec_l2Refs.l0 k1 a0 a1 y197 (wrap64 (x6_1 + t196))) = some r := by (rw [hy197]; with_reducible exact H)
            have Ny197 := am hy197
            clear hy197
            have H' := am H
            clear H
            have p7 : (0 ≤ (x6_1 : Int)) = True := dt (by with_reducible assumption)
            have q7 : (x6_1 < (a0.size : Int)) = True := dt (by with_reducible assumption)
            have hx7 := bt_at a0 x6_1
            go_wp2_with (first | ((with_reducible refine gate_callee (f := 28) rfl ?_); refine goesL_ (some 22) rfl rfl Tryd.func28 (by kernel_rfl) rfl #[.string a0, .int .i64 x6_1, .bool a1] rfl (by simp only [List.map_toArray, List.map_cons, List.map_nil]; rfl) ?_; (with_reducible refine (spec_Reference.calls k1 a0 x6_1 a1 t195 t196 _ A9.out).mono ?_); rintro e w12 ⟨rfl, hb⟩; refine ⟨_, rfl, ?_⟩; replace HO_5 := am (Kd.R_below HO_5.out hb); replace HB := am (below_step HB.out hb); (try clear hb)) | (at_builtin; refine print_append_str (w0 := w) w.heap.size rfl (.tmp 27) _ 42 9 5 rfl Tryd.underlying42 Tryd.underlying9 info5 u5 x5_1 t195 rfl rfl ?aO ?aB ?aS ?aL ?_; (case aB => exact HB.out); (case aO => exact (Kd.own_of_R HO_5.out)); (case aS => exact (below_size HB.out)); (case aL => have := LMc11.out; omega); intro v198 w13 ho0 hb hg; have ho := Kd.R_of_own (h1 := fun _ => rfl) (ok := fun _ => True) ho0 (fun _ _ => trivial); clear ho0; have hat := True.intro; rw [← Ny197.out] at ho; change Kd.R (Kd.int .u8) 5 w13 w.heap.size (fun _ => True) v198 y197 at ho; replace HB := am hb; have HO199 := am ho; clear HO_5; clear ho hb hg hat))
            go_roundg k1
            case measure => have := HK1.out; omega
            case rel => exact ⟨(y197), (wrap64 (x6_1 + t196)), rfl, H', ⟨by have := HK1.out; omega⟩, ⟨by exact HO199.out⟩, ⟨by exact HB.out⟩⟩
          · rw [if_neg c10] at H
            have c10b0 : decide (0 < t196) = false := decide_eq_false c10
            clear c10
            obtain ⟨c15, H⟩ := ifn H
            have LMc15 := am c15
            clear c15
            obtain ⟨y200, hy200⟩ : ∃ y_ : List Int, y_ = (x5_1 ++ [bt a0 x6_1]) := ⟨_, rfl⟩
            replace H : (spec_l2Refs.l0 k1 a0 a1 y200 (wrap64 (x6_1 + 1))) = some r := by (rw [hy200]; with_reducible exact H)
            have Ny200 := am hy200
            clear hy200
            have H' := am H
            clear H
            have p7 : (0 ≤ (x6_1 : Int)) = True := dt (by with_reducible assumption)
            have q7 : (x6_1 < (a0.size : Int)) = True := dt (by with_reducible assumption)
            have hx7 := bt_at a0 x6_1
            go_wp2_with (first | ((with_reducible refine gate_callee (f := 28) rfl ?_); refine goesL_ (some 22) rfl rfl Tryd.func28 (by kernel_rfl) rfl #[.string a0, .int .i64 x6_1, .bool a1] rfl (by simp only [List.map_toArray, List.map_cons, List.map_nil]; rfl) ?_; (with_reducible refine (spec_Reference.calls k1 a0 x6_1 a1 t195 t196 _ A9.out).mono ?_); rintro e w16 ⟨rfl, hb⟩; refine ⟨_, rfl, ?_⟩; replace HO_5 := am (Kd.R_below HO_5.out hb); replace HB := am (below_step HB.out hb); (try clear hb); have p14 : (0 ≤ (x6_1 : Int)) = True := dt (by with_reducible assumption); have q14 : (x6_1 < (a0.size : Int)) = True := dt (by with_reducible assumption); have hx14 := bt_at a0 x6_1) | ((with_reducible refine gate_builtin (b := .append) (xs := #[.tmp 33, .tmp 37]) rfl ?_); at_builtin; refine Kd.R_append (Kd.int .u8) (w0 := w) w.heap.size rfl (.tmp 33) (.tmp 37) 42 5 (.int .u8 0) 1 rfl Tryd.underlying42 info5 rfl (by decide) (by omega) u5 x5_1 (bt a0 x6_1) [.int .u8 (bt a0 x6_1)] (fun _ => True) (fun _ => False) rfl rfl ?aP (fun _ hk => hk.elim) ?aF ?aO ?aB ?aS ?aL ?_; (case aP => exact rfl); (case aB => exact HB.out); (case aF => exact (fun _ _ => trivial)); (case aO => exact HO_5.out); (case aS => exact (below_size HB.out)); (case aL => have := LMc15.out; omega); intro v201 w17 ho hb hg hat; rw [← Ny200.out] at ho; replace HB := am hb; have HO202 := am ho; clear HO_5; clear ho hb hg hat))
            go_roundg k1
            case measure => have := HK1.out; omega
            case rel => exact ⟨(y200), (wrap64 (x6_1 + 1)), rfl, H', ⟨by have := HK1.out; omega⟩, ⟨by exact HO202.out⟩, ⟨by exact HB.out⟩⟩
        · rw [if_neg c8] at H
          have c8b0 : ((bt a0 x6_1) == 38) = false := beq_eq_false_iff_ne.mpr c8
          have c8b1 : ((bt a0 x6_1) != 38) = true := bne_iff_ne.mpr c8
          obtain ⟨c19, H⟩ := ifn H
          have LMc19 := am c19
          clear c19
          obtain ⟨y203, hy203⟩ : ∃ y_ : List Int, y_ = (x5_1 ++ [bt a0 x6_1]) := ⟨_, rfl⟩
          replace H : (spec_l2Refs.l0 k1 a0 a1 y203 (wrap64 (x6_1 + 1))) = some r := by (rw [hy203]; with_reducible exact H)
          have Ny203 := am hy203
          clear hy203
          have H' := am H
          clear H
          have p7 : (0 ≤ (x6_1 : Int)) = True := dt (by with_reducible assumption)
          have q7 : (x6_1 < (a0.size : Int)) = True := dt (by with_reducible assumption)
          have hx7 := bt_at a0 x6_1
          have p18 : (0 ≤ (x6_1 : Int)) = True := dt (by with_reducible assumption)
          have q18 : (x6_1 < (a0.size : Int)) = True := dt (by with_reducible assumption)
          have hx18 := bt_at a0 x6_1
          go_wp2_with (((with_reducible refine gate_builtin (b := .append) (xs := #[.tmp 33, .tmp 37]) rfl ?_); at_builtin; refine Kd.R_append (Kd.int .u8) (w0 := w) w.heap.size rfl (.tmp 33) (.tmp 37) 42 5 (.int .u8 0) 1 rfl Tryd.underlying42 info5 rfl (by decide) (by omega) u5 x5_1 (bt a0 x6_1) [.int .u8 (bt a0 x6_1)] (fun _ => True) (fun _ => False) rfl rfl ?aP (fun _ hk => hk.elim) ?aF ?aO ?aB ?aS ?aL ?_; (case aP => exact rfl); (case aB => exact HB.out); (case aF => exact (fun _ _ => trivial)); (case aO => exact HO_5.out); (case aS => exact (below_size HB.out)); (case aL => have := LMc19.out; omega); intro v204 w20 ho hb hg hat; rw [← Ny203.out] at ho; replace HB := am hb; have HO205 := am ho; clear HO_5; clear ho hb hg hat))
          go_roundg k1
          case measure => have := HK1.out; omega
          case rel => exact ⟨(y203), (wrap64 (x6_1 + 1)), rfl, H', ⟨by have := HK1.out; omega⟩, ⟨by exact HO205.out⟩, ⟨by exact HB.out⟩⟩
      · rw [if_neg c5] at H
        have c5b0 : decide (x6_1 < (a0.size : Int)) = false := decide_eq_false c5
        clear c5
        obtain rfl := Option.some.inj H
        have hcv21 := own_string (P := Tryd.prog) Tryd.underlying42 Tryd.underlying5 Tryd.underlying9 (Kd.own_of_R HO_5.out)
        go_wp2
        go_ret
        exact ⟨rfl, by exact HB.out⟩
end Go.Proofs.YtnjnoabldjodcaaDoor.PFnExactTokens
