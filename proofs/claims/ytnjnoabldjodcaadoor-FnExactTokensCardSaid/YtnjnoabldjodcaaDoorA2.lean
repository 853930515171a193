/- Part 2 of the proof: PtB. -/
import Derived.Test.YtnjnoabldjodcaaDoorX0
import Derived.Test.YtnjnoabldjodcaaDoorA1
namespace Go.Proofs.YtnjnoabldjodcaaDoor.PFnExactTokens
open Go.RowKit Go.Proofs.YtnjnoabldjodcaaDoorW.PrintWords Go.Proofs.YtnjnoabldjodcaaDoorW.PrintLast Go.Proofs.YtnjnoabldjodcaaDoorW.PrintMore
attribute [local go_sem] max2_int min2_int max_two min_two max_three min_three max_four min_four
set_option linter.unusedVariables false
set_option linter.unusedSimpArgs false
mutual
def spec_l1Put.j0 : Nat → List Int → Int → Bool → Option (List Int)
  | 0, _, _, _ => none
  | k + 1, x0, x1, x18 => if x18 = true then (spec_l1Put.j1 k x0 65533) else (spec_l1Put.j1 k x0 x1)
def spec_l1Put.j1 : Nat → List Int → Int → Option (List Int)
  | 0, _, _ => none
  | k + 1, x0, x1 => if x1 < 128 then (if x0.length < 140737488355328 then (some (x0 ++ [(x1) % 256])) else (none)) else (if x1 < 2048 then ((some (([(wrap64 (192 + (wrap64 (Int.tdiv x1 64)))) % 256, (wrap64 (128 + (Int.tmod x1 64))) % 256] : List Int) : List Int)).bind fun y114 => (if x0.length + y114.length < 140737488355328 then (some (x0 ++ y114)) else (none))) else (if x1 < 65536 then ((some (([(wrap64 (224 + (wrap64 (Int.tdiv x1 4096)))) % 256, (wrap64 (128 + (Int.tmod (wrap64 (Int.tdiv x1 64)) 64))) % 256, (wrap64 (128 + (Int.tmod x1 64))) % 256] : List Int) : List Int)).bind fun y120 => (if x0.length + y120.length < 140737488355328 then (some (x0 ++ y120)) else (none))) else ((some (([(wrap64 (240 + (wrap64 (Int.tdiv x1 262144)))) % 256, (wrap64 (128 + (Int.tmod (wrap64 (Int.tdiv x1 4096)) 64))) % 256, (wrap64 (128 + (Int.tmod (wrap64 (Int.tdiv x1 64)) 64))) % 256, (wrap64 (128 + (Int.tmod x1 64))) % 256] : List Int) : List Int)).bind fun y126 => (if x0.length + y126.length < 140737488355328 then (some (x0 ++ y126)) else (none)))))
end
def spec_l1Put.f (k : Nat) (l0 : List Int) (a1 : Int) : Option (List Int) := if a1 < 0 then (spec_l1Put.j0 k l0 a1 true) else (if a1 > 1114111 then (spec_l1Put.j0 k l0 a1 true) else (if a1 ≥ 55296 then (spec_l1Put.j0 k l0 a1 (decide (a1 ≤ 57343))) else (spec_l1Put.j0 k l0 a1 false)))
theorem spec_l1Put.mono_l : ∀ k, (∀ y0 y1 y2, LeO (spec_l1Put.j0 k y0 y1 y2) (spec_l1Put.j0 (k + 1) y0 y1 y2)) ∧ (∀ y0 y1, LeO (spec_l1Put.j1 k y0 y1) (spec_l1Put.j1 (k + 1) y0 y1))
  | 0 => ⟨fun _ _ _ r h => by simp [spec_l1Put.j0] at h, fun _ _ r h => by simp [spec_l1Put.j1] at h⟩
  | k + 1 => by
    obtain ⟨ih0, ih1⟩ := spec_l1Put.mono_l k
    refine ⟨?_, ?_⟩
    · intro y0 y1 y2
      unfold spec_l1Put.j0
      repeat' first
      | (with_reducible exact ih0 _ _ _)
      | (with_reducible exact ih1 _ _)
      | (with_reducible exact LeO.refl _)
      | (with_reducible exact LeO.none _)
      | (with_reducible refine LeO.ite ?_ ?_)
      | (with_reducible refine LeO.bind ?_ (fun _ => ?_))
      | exact ih0 _ _ _
      | exact ih1 _ _
      | exact LeO.none _
      | refine LeO.ite ?_ ?_
      | refine LeO.bind ?_ (fun _ => ?_)
    · intro y0 y1
      unfold spec_l1Put.j1
      repeat' first
      | (with_reducible exact ih0 _ _ _)
      | (with_reducible exact ih1 _ _)
      | (with_reducible exact LeO.refl _)
      | (with_reducible exact LeO.none _)
      | (with_reducible refine LeO.ite ?_ ?_)
      | (with_reducible refine LeO.bind ?_ (fun _ => ?_))
      | exact ih0 _ _ _
      | exact ih1 _ _
      | exact LeO.none _
      | refine LeO.ite ?_ ?_
      | refine LeO.bind ?_ (fun _ => ?_)
theorem spec_l1Put.mono : ∀ a0 a1 k, LeO (spec_l1Put.f k a0 a1) (spec_l1Put.f (k + 1) a0 a1) := by
  intro a0 a1 k
  obtain ⟨ih0, ih1⟩ := spec_l1Put.mono_l k
  unfold spec_l1Put.f
  repeat' first
      | (with_reducible exact ih0 _ _ _)
      | (with_reducible exact ih1 _ _)
      | (with_reducible exact LeO.refl _)
      | (with_reducible exact LeO.none _)
      | (with_reducible refine LeO.ite ?_ ?_)
      | (with_reducible refine LeO.bind ?_ (fun _ => ?_))
      | exact ih0 _ _ _
      | exact ih1 _ _
      | exact LeO.none _
      | refine LeO.ite ?_ ?_
      | refine LeO.bind ?_ (fun _ => ?_)
set_option maxHeartbeats 8000000 in
set_option maxRecDepth 100000 in
theorem spec_l1Put.calls (k : Nat) (P0_ : Nat → Prop) (u9000_ : Value) (l0 : List Int) (a1 : Int) (r : List Int) (w0 w : World) (hB : Below w0.heap.size w0 w) (ho0 : Kd.R (Kd.int .u8) 5 w w0.heap.size P0_ u9000_ l0) (h : spec_l1Put.f k l0 a1 = some r) :
    Calls Tryd.prog 58 #[u9000_, .int .i64 a1] w fun e w' => ∃ v0_ : Value, e = .returned (v0_) ∧ Kd.R (Kd.int .u8) 5 w' w0.heap.size (fun k_ => (P0_ k_ ∨ w.heap.size ≤ k_)) v0_ r ∧ Below w0.heap.size w0 w' ∧ Kept w w' (fun k_ => P0_ k_) := by
  have HO0 := am (show Kd.R (Kd.int .u8) 5 w w0.heap.size (fun k_ => (P0_ k_ ∨ w.heap.size ≤ k_)) u9000_ l0 from Kd.R_mono ho0 (fun k_ hk => (.inl hk)))
  have HK := am (Kept.refl w (fun k_ => P0_ k_))
  have HW0 := am hB.size
  have HB := am hB
  clear hB
  have H := h
  clear h
  unfold spec_l1Put.f at H
  have HC3 := am H
  clear H
  go_enter Tryd.func58, Tryd.ntmps58
  go_upto_region 1 with (fail)
  go_cut [18] (fun v18 wc => ∃ (kq : Nat) (x18_2 : Bool), v18 = .bool x18_2 ∧ Aside0 (spec_l1Put.j0 kq l0 a1 x18_2 = some r) ∧ Aside0 (kq ≤ k) ∧ Aside0 (Kd.R (Kd.int .u8) 5 wc w0.heap.size (fun k_ => (P0_ k_ ∨ w.heap.size ≤ k_)) u9000_ l0) ∧ Aside0 (Kept w wc (fun k_ => P0_ k_)) ∧ Aside0 (Below w0.heap.size w0 wc))
  case first =>
    have H := HC3.out
    clear HC3
    by_cases c4 : a1 < 0
    · rw [if_pos c4] at H
      have c4b0 : decide (a1 < 0) = true := decide_eq_true c4
      clear c4
      have H' := am H
      clear H
      go_wp2
      go_meet
      case rel => exact ⟨_, (true), rfl, H', ⟨by omega⟩, ⟨by exact HO0.out⟩, ⟨by exact HK.out⟩, ⟨by exact HB.out⟩⟩
    · rw [if_neg c4] at H
      have c4b0 : decide (a1 < 0) = false := decide_eq_false c4
      clear c4
      by_cases c5 : a1 > 1114111
      · rw [if_pos c5] at H
        have c5b0 : decide (1114111 < a1) = true := decide_eq_true c5
        clear c5
        have H' := am H
        clear H
        go_wp2
        go_meet
        case rel => exact ⟨_, (true), rfl, H', ⟨by omega⟩, ⟨by exact HO0.out⟩, ⟨by exact HK.out⟩, ⟨by exact HB.out⟩⟩
      · rw [if_neg c5] at H
        have c5b0 : decide (1114111 < a1) = false := decide_eq_false c5
        clear c5
        by_cases c6 : a1 ≥ 55296
        · rw [if_pos c6] at H
          have c6b0 : decide (55296 ≤ a1) = true := decide_eq_true c6
          clear c6
          have H' := am H
          clear H
          go_wp2
          go_meet
          case rel => exact ⟨_, (decide (a1 ≤ 57343)), rfl, H', ⟨by omega⟩, ⟨by exact HO0.out⟩, ⟨by exact HK.out⟩, ⟨by exact HB.out⟩⟩
        · rw [if_neg c6] at H
          have c6b0 : decide (55296 ≤ a1) = false := decide_eq_false c6
          clear c6
          have H' := am H
          clear H
          go_wp2
          go_meet
          case rel => exact ⟨_, (false), rfl, H', ⟨by omega⟩, ⟨by exact HO0.out⟩, ⟨by exact HK.out⟩, ⟨by exact HB.out⟩⟩
  case rest =>
    clear HC3
    obtain ⟨kq, x18_2, rfl, HA, HJ2, HO_0, HK, HB⟩ := hcut
    cases kq with
    | zero => exact absurd HA.out (by simp [spec_l1Put.j0])
    | succ kj2 =>
      have H := HA.out
      clear HA
      simp only [spec_l1Put.j0] at H
      have HC7 := am H
      clear H
      go_upto_if 18 with (fail)
      go_cut [1] (fun v1 wc => ∃ (kq : Nat) (x1_6 : Int), v1 = .int .i64 x1_6 ∧ Aside0 (spec_l1Put.j1 kq l0 x1_6 = some r) ∧ Aside0 (kq ≤ kj2) ∧ Aside0 (Kd.R (Kd.int .u8) 5 wc w0.heap.size (fun k_ => (P0_ k_ ∨ w.heap.size ≤ k_)) u9000_ l0) ∧ Aside0 (Kept w wc (fun k_ => P0_ k_)) ∧ Aside0 (Below w0.heap.size w0 wc))
      case first =>
        have H := HC7.out
        clear HC7
        by_cases c8 : x18_2 = true
        · subst c8
          rw [if_pos rfl] at H
          have H' := am H
          clear H
          go_wp2
          go_meet
          case rel => exact ⟨_, (65533), rfl, H', ⟨by have := HJ2.out; omega⟩, ⟨by exact HO_0.out⟩, ⟨by exact HK.out⟩, ⟨by exact HB.out⟩⟩
        · replace c8 := Bool.eq_false_iff.mpr c8
          subst c8
          rw [if_neg nft] at H
          have H' := am H
          clear H
          go_wp2
          go_meet
          case rel => exact ⟨_, (a1), rfl, H', ⟨by have := HJ2.out; omega⟩, ⟨by exact HO_0.out⟩, ⟨by exact HK.out⟩, ⟨by exact HB.out⟩⟩
      case rest =>
        clear HC7
        obtain ⟨kq, x1_6, rfl, HA, HJ6, HO_0, HK, HB⟩ := hcut
        cases kq with
        | zero => exact absurd HA.out (by simp [spec_l1Put.j1])
        | succ kj6 =>
          have H := HA.out
          clear HA
          simp only [spec_l1Put.j1] at H
          by_cases c9 : x1_6 < 128
          · rw [if_pos c9] at H
            have c9b0 : decide (x1_6 < 128) = true := decide_eq_true c9
            clear c9
            obtain ⟨c10, H⟩ := ifn H
            have LMc10 := am c10
            clear c10
            obtain ⟨y111, hy111⟩ : ∃ y_ : List Int, y_ = (l0 ++ [(x1_6) % 256]) := ⟨_, rfl⟩
            replace H : (some y111) = some r := by (rw [hy111]; with_reducible exact H)
            have Ny111 := am hy111
            clear hy111
            obtain rfl := Option.some.inj H
            go_wp2_with (((with_reducible refine gate_builtin (b := .append) (xs := #[.tmp 21, .tmp 24]) rfl ?_); at_builtin; refine Kd.R_append (Kd.int .u8) (w0 := w0) w0.heap.size rfl (.tmp 21) (.tmp 24) 42 5 (.int .u8 0) 1 rfl Tryd.underlying42 info5 rfl (by decide) (by omega) u9000_ l0 ((x1_6) % 256) [.int .u8 ((x1_6) % 256)] (fun k_ => (P0_ k_ ∨ w.heap.size ≤ k_)) (fun _ => False) rfl rfl ?aP (fun _ hk => hk.elim) ?aF ?aO ?aB ?aS ?aL ?_; (case aP => exact rfl); (case aB => exact HB.out); (case aF => exact (fun k_ hk => (.inr (Nat.le_trans HK.out.1 hk)))); (case aO => exact HO_0.out); (case aS => exact (below_size HB.out)); (case aL => have := LMc10.out; omega); intro v112 w11 ho hb hg hat; rw [← Ny111.out] at ho; replace HB := am hb; replace HK := am (Kept.of_grown (S := (fun k_ => P0_ k_)) hg HK.out (fun k_ e_ => (HO_0.out.1 k_ e_))); have HO113 := am ho; clear HO_0; clear ho hb hg hat))
            go_ret
            exact ⟨_, rfl, by exact HO113.out, by exact HB.out, by exact HK.out⟩
          · rw [if_neg c9] at H
            have c9b0 : decide (x1_6 < 128) = false := decide_eq_false c9
            clear c9
            by_cases c12 : x1_6 < 2048
            · rw [if_pos c12] at H
              have c12b0 : decide (x1_6 < 2048) = true := decide_eq_true c12
              clear c12
              obtain ⟨y114, hy114⟩ : ∃ y_ : List Int, y_ = (([(wrap64 (192 + (wrap64 (Int.tdiv x1_6 64)))) % 256, (wrap64 (128 + (Int.tmod x1_6 64))) % 256] : List Int)) := ⟨_, rfl⟩
              replace H : (if l0.length + y114.length < 140737488355328 then (some (l0 ++ y114)) else (none)) = some r := by (have H2_ := (Option.bind_some _ _).symm.trans H; rw [hy114]; with_reducible exact H2_)
              have Ny114 := am hy114
              clear hy114
              obtain ⟨c13, H⟩ := ifn H
              have LMc13 := am c13
              clear c13
              obtain ⟨y117, hy117⟩ : ∃ y_ : List Int, y_ = (l0 ++ y114) := ⟨_, rfl⟩
              replace H : (some y117) = some r := by (rw [hy117]; with_reducible exact H)
              have Ny117 := am hy117
              clear hy117
              obtain rfl := Option.some.inj H
              go_wp2_with (first | ((with_reducible refine gate_dst (N := 37) rfl ?_); refine Kd.R_lit (Kd.int .u8) _ 5 ?hg (N := 37) ?hd (xs := ([(wrap64 (192 + (wrap64 (Int.tdiv x1_6 64)))) % 256, (wrap64 (128 + (Int.tmod x1_6 64))) % 256] : List Int)) (inner := [.int .u8 ((wrap64 (192 + (wrap64 (Int.tdiv x1_6 64)))) % 256), .int .u8 ((wrap64 (128 + (Int.tmod x1_6 64))) % 256)]) (ok := fun _ => True) (okp := fun _ => True) ?hr ?hp (fun _ hk => hk) trivial (Below.refl _ _) (Nat.le_refl _) (by simp) ?_; (case hd => rfl); (case hg => rfl); (case hr => (go_simp; done)); (case hp => exact (Reps.one (show Kd.M (Kd.int .u8) _ _ _ ((wrap64 (192 + (wrap64 (Int.tdiv x1_6 64)))) % 256) [.int .u8 ((wrap64 (192 + (wrap64 (Int.tdiv x1_6 64)))) % 256)] from rfl) (Reps.one (show Kd.M (Kd.int .u8) _ _ _ ((wrap64 (128 + (Int.tmod x1_6 64))) % 256) [.int .u8 ((wrap64 (128 + (Int.tmod x1_6 64))) % 256)] from rfl) (Reps.none _ _)))); intro v115 w14 ho15 hb hg_ hnew_; clear hg_ hnew_; (rw [← Ny114.out] at ho15); have n0_ := am (Kd.R_elder' HO_0.out (Kd.R_base ho15) hb); have n1_ := am (Kd.R_lower (Kd.R_new' (Kd.R_newM (M := fun k_ => (P0_ k_ ∨ w.heap.size ≤ k_)) ho15 HK.out.1 (fun k_ h_ => .inr h_)) (Kd.R_lt HO_0.out)) (below_size HB.out)); have n2_ := am (Kept.below (S := (fun k_ => P0_ k_)) HK.out hb); have n3_ := am (below_step HB.out hb); clear HO_0; clear HK; clear HB; have HO_0 := n0_; have HO116 := n1_; have HK := n2_; have HB := n3_; clear n0_ n1_ n2_ n3_; clear hb ho15; obtain ⟨Ao17, co17, eo17⟩ := Kd.R_slice HO116.out; subst eo17) | ((with_reducible refine gate_builtin (b := .append) (xs := #[.tmp 28, .tmp 37]) rfl ?_); at_builtin; refine Kd.R_append_rows (Kd.int .u8) (w0 := w0) w0.heap.size rfl (.tmp 28) (.tmp 37) 42 5 (.int .u8 0) 1 rfl Tryd.underlying42 info5 rfl (by decide) (by omega) u9000_ l0 y114 _ _ _ (fun k_ => (P0_ k_ ∨ w.heap.size ≤ k_) ∧ some k_ ≠ (.slice Ao17 y114.length co17 : Value).ownBlock) (fun _ => False) rfl rfl ?aO ?aR (fun _ _ h => h) (fun _ h => h.elim) ?aF ?aB ?aS ?aL ?_; (case aR => repeat (exact (Kd.R_reads' HO116.out).2.2)); (case aB => exact HB.out); (case aF => exact (fun k_ hk => ⟨(.inr (Nat.le_trans HK.out.1 hk)), Kd.fresh' (Kd.R_lt HO116.out) k_ hk⟩)); (case aO => exact HO_0.out); (case aS => exact (below_size HB.out)); (case aL => have := LMc13.out; omega); intro v118 w16 ho hb hg hat; rw [← Ny117.out] at ho; replace HO116 := am (Kd.R_after (ok := (fun k_ => (P0_ k_ ∨ w.heap.size ≤ k_))) (by exact Kd.R_mono HO116.out (fun _ hk => ⟨hk.1.1, hk.2⟩)) hg hat); replace HB := am hb; replace HK := am (Kept.of_grown (S := (fun k_ => P0_ k_)) hg HK.out (fun k_ e_ => (HO_0.out.1 k_ e_).1)); have HO119 := am ho; clear HO_0; clear ho hb hg hat))
              go_ret
              exact ⟨_, rfl, by exact Kd.R_mono HO119.out (fun _ hk => hk.1), by exact HB.out, by exact HK.out⟩
            · rw [if_neg c12] at H
              have c12b0 : decide (x1_6 < 2048) = false := decide_eq_false c12
              clear c12
              by_cases c18 : x1_6 < 65536
              · rw [if_pos c18] at H
                have c18b0 : decide (x1_6 < 65536) = true := decide_eq_true c18
                clear c18
                obtain ⟨y120, hy120⟩ : ∃ y_ : List Int, y_ = (([(wrap64 (224 + (wrap64 (Int.tdiv x1_6 4096)))) % 256, (wrap64 (128 + (Int.tmod (wrap64 (Int.tdiv x1_6 64)) 64))) % 256, (wrap64 (128 + (Int.tmod x1_6 64))) % 256] : List Int)) := ⟨_, rfl⟩
                replace H : (if l0.length + y120.length < 140737488355328 then (some (l0 ++ y120)) else (none)) = some r := by (have H2_ := (Option.bind_some _ _).symm.trans H; rw [hy120]; with_reducible exact H2_)
                have Ny120 := am hy120
                clear hy120
                obtain ⟨c19, H⟩ := ifn H
                have LMc19 := am c19
                clear c19
                obtain ⟨y123, hy123⟩ : ∃ y_ : List Int, y_ = (l0 ++ y120) := ⟨_, rfl⟩
                replace H : (some y123) = some r := by (rw [hy123]; with_reducible exact H)
                have Ny123 := am hy123
                clear hy123
                obtain rfl := Option.some.inj H
                go_wp2_with (first | ((with_reducible refine gate_dst (N := 55) rfl ?_); refine Kd.R_lit (Kd.int .u8) _ 5 ?hg (N := 55) ?hd (xs := ([(wrap64 (224 + (wrap64 (Int.tdiv x1_6 4096)))) % 256, (wrap64 (128 + (Int.tmod (wrap64 (Int.tdiv x1_6 64)) 64))) % 256, (wrap64 (128 + (Int.tmod x1_6 64))) % 256] : List Int)) (inner := [.int .u8 ((wrap64 (224 + (wrap64 (Int.tdiv x1_6 4096)))) % 256), .int .u8 ((wrap64 (128 + (Int.tmod (wrap64 (Int.tdiv x1_6 64)) 64))) % 256), .int .u8 ((wrap64 (128 + (Int.tmod x1_6 64))) % 256)]) (ok := fun _ => True) (okp := fun _ => True) ?hr ?hp (fun _ hk => hk) trivial (Below.refl _ _) (Nat.le_refl _) (by simp) ?_; (case hd => rfl); (case hg => rfl); (case hr => (go_simp; done)); (case hp => exact (Reps.one (show Kd.M (Kd.int .u8) _ _ _ ((wrap64 (224 + (wrap64 (Int.tdiv x1_6 4096)))) % 256) [.int .u8 ((wrap64 (224 + (wrap64 (Int.tdiv x1_6 4096)))) % 256)] from rfl) (Reps.one (show Kd.M (Kd.int .u8) _ _ _ ((wrap64 (128 + (Int.tmod (wrap64 (Int.tdiv x1_6 64)) 64))) % 256) [.int .u8 ((wrap64 (128 + (Int.tmod (wrap64 (Int.tdiv x1_6 64)) 64))) % 256)] from rfl) (Reps.one (show Kd.M (Kd.int .u8) _ _ _ ((wrap64 (128 + (Int.tmod x1_6 64))) % 256) [.int .u8 ((wrap64 (128 + (Int.tmod x1_6 64))) % 256)] from rfl) (Reps.none _ _))))); intro v121 w20 ho21 hb hg_ hnew_; clear hg_ hnew_; (rw [← Ny120.out] at ho21); have n0_ := am (Kd.R_elder' HO_0.out (Kd.R_base ho21) hb); have n1_ := am (Kd.R_lower (Kd.R_new' (Kd.R_newM (M := fun k_ => (P0_ k_ ∨ w.heap.size ≤ k_)) ho21 HK.out.1 (fun k_ h_ => .inr h_)) (Kd.R_lt HO_0.out)) (below_size HB.out)); have n2_ := am (Kept.below (S := (fun k_ => P0_ k_)) HK.out hb); have n3_ := am (below_step HB.out hb); clear HO_0; clear HK; clear HB; have HO_0 := n0_; have HO122 := n1_; have HK := n2_; have HB := n3_; clear n0_ n1_ n2_ n3_; clear hb ho21; obtain ⟨Ao23, co23, eo23⟩ := Kd.R_slice HO122.out; subst eo23) | ((with_reducible refine gate_builtin (b := .append) (xs := #[.tmp 41, .tmp 55]) rfl ?_); at_builtin; refine Kd.R_append_rows (Kd.int .u8) (w0 := w0) w0.heap.size rfl (.tmp 41) (.tmp 55) 42 5 (.int .u8 0) 1 rfl Tryd.underlying42 info5 rfl (by decide) (by omega) u9000_ l0 y120 _ _ _ (fun k_ => (P0_ k_ ∨ w.heap.size ≤ k_) ∧ some k_ ≠ (.slice Ao23 y120.length co23 : Value).ownBlock) (fun _ => False) rfl rfl ?aO ?aR (fun _ _ h => h) (fun _ h => h.elim) ?aF ?aB ?aS ?aL ?_; (case aR => repeat (exact (Kd.R_reads' HO122.out).2.2)); (case aB => exact HB.out); (case aF => exact (fun k_ hk => ⟨(.inr (Nat.le_trans HK.out.1 hk)), Kd.fresh' (Kd.R_lt HO122.out) k_ hk⟩)); (case aO => exact HO_0.out); (case aS => exact (below_size HB.out)); (case aL => have := LMc19.out; omega); intro v124 w22 ho hb hg hat; rw [← Ny123.out] at ho; replace HO122 := am (Kd.R_after (ok := (fun k_ => (P0_ k_ ∨ w.heap.size ≤ k_))) (by exact Kd.R_mono HO122.out (fun _ hk => ⟨hk.1.1, hk.2⟩)) hg hat); replace HB := am hb; replace HK := am (Kept.of_grown (S := (fun k_ => P0_ k_)) hg HK.out (fun k_ e_ => (HO_0.out.1 k_ e_).1)); have HO125 := am ho; clear HO_0; clear ho hb hg hat))
                go_ret
                exact ⟨_, rfl, by exact Kd.R_mono HO125.out (fun _ hk => hk.1), by exact HB.out, by exact HK.out⟩
              · rw [if_neg c18] at H
                have c18b0 : decide (x1_6 < 65536) = false := decide_eq_false c18
                clear c18
                obtain ⟨y126, hy126⟩ : ∃ y_ : List Int, y_ = (([(wrap64 (240 + (wrap64 (Int.tdiv x1_6 262144)))) % 256, (wrap64 (128 + (Int.tmod (wrap64 (Int.tdiv x1_6 4096)) 64))) % 256, (wrap64 (128 + (Int.tmod (wrap64 (Int.tdiv x1_6 64)) 64))) % 256, (wrap64 (128 + (Int.tmod x1_6 64))) % 256] : List Int)) := ⟨_, rfl⟩
                replace H : (if l0.length + y126.length < 140737488355328 then (some (l0 ++ y126)) else (none)) = some r := by (have H2_ := (Option.bind_some _ _).symm.trans H; rw [hy126]; with_reducible exact H2_)
                have Ny126 := am hy126
                clear hy126
                obtain ⟨c24, H⟩ := ifn H
                have LMc24 := am c24
                clear c24
                obtain ⟨y129, hy129⟩ : ∃ y_ : List Int, y_ = (l0 ++ y126) := ⟨_, rfl⟩
                replace H : (some y129) = some r := by (rw [hy129]; with_reducible exact H)
                have Ny129 := am hy129
                clear hy129
                obtain rfl := Option.some.inj H
                go_wp2_with (first | ((with_reducible refine gate_dst (N := 76) rfl ?_); refine Kd.R_lit (Kd.int .u8) _ 5 ?hg (N := 76) ?hd (xs := ([(wrap64 (240 + (wrap64 (Int.tdiv x1_6 262144)))) % 256, (wrap64 (128 + (Int.tmod (wrap64 (Int.tdiv x1_6 4096)) 64))) % 256, (wrap64 (128 + (Int.tmod (wrap64 (Int.tdiv x1_6 64)) 64))) % 256, (wrap64 (128 + (Int.tmod x1_6 64))) % 256] : List Int)) (inner := [.int .u8 ((wrap64 (240 + (wrap64 (Int.tdiv x1_6 262144)))) % 256), .int .u8 ((wrap64 (128 + (Int.tmod (wrap64 (Int.tdiv x1_6 4096)) 64))) % 256), .int .u8 ((wrap64 (128 + (Int.tmod (wrap64 (Int.tdiv x1_6 64)) 64))) % 256), .int .u8 ((wrap64 (128 + (Int.tmod x1_6 64))) % 256)]) (ok := fun _ => True) (okp := fun _ => True) ?hr ?hp (fun _ hk => hk) trivial (Below.refl _ _) (Nat.le_refl _) (by simp) ?_; (case hd => rfl); (case hg => rfl); (case hr => (go_simp; done)); (case hp => exact (Reps.one (show Kd.M (Kd.int .u8) _ _ _ ((wrap64 (240 + (wrap64 (Int.tdiv x1_6 262144)))) % 256) [.int .u8 ((wrap64 (240 + (wrap64 (Int.tdiv x1_6 262144)))) % 256)] from rfl) (Reps.one (show Kd.M (Kd.int .u8) _ _ _ ((wrap64 (128 + (Int.tmod (wrap64 (Int.tdiv x1_6 4096)) 64))) % 256) [.int .u8 ((wrap64 (128 + (Int.tmod (wrap64 (Int.tdiv x1_6 4096)) 64))) % 256)] from rfl) (Reps.one (show Kd.M (Kd.int .u8) _ _ _ ((wrap64 (128 + (Int.tmod (wrap64 (Int.tdiv x1_6 64)) 64))) % 256) [.int .u8 ((wrap64 (128 + (Int.tmod (wrap64 (Int.tdiv x1_6 64)) 64))) % 256)] from rfl) (Reps.one (show Kd.M (Kd.int .u8) _ _ _ ((wrap64 (128 + (Int.tmod x1_6 64))) % 256) [.int .u8 ((wrap64 (128 + (Int.tmod x1_6 64))) % 256)] from rfl) (Reps.none _ _)))))); intro v127 w25 ho26 hb hg_ hnew_; clear hg_ hnew_; (rw [← Ny126.out] at ho26); have n0_ := am (Kd.R_elder' HO_0.out (Kd.R_base ho26) hb); have n1_ := am (Kd.R_lower (Kd.R_new' (Kd.R_newM (M := fun k_ => (P0_ k_ ∨ w.heap.size ≤ k_)) ho26 HK.out.1 (fun k_ h_ => .inr h_)) (Kd.R_lt HO_0.out)) (below_size HB.out)); have n2_ := am (Kept.below (S := (fun k_ => P0_ k_)) HK.out hb); have n3_ := am (below_step HB.out hb); clear HO_0; clear HK; clear HB; have HO_0 := n0_; have HO128 := n1_; have HK := n2_; have HB := n3_; clear n0_ n1_ n2_ n3_; clear hb ho26; obtain ⟨Ao28, co28, eo28⟩ := Kd.R_slice HO128.out; subst eo28) | ((with_reducible refine gate_builtin (b := .append) (xs := #[.tmp 57, .tmp 76]) rfl ?_); at_builtin; refine Kd.R_append_rows (Kd.int .u8) (w0 := w0) w0.heap.size rfl (.tmp 57) (.tmp 76) 42 5 (.int .u8 0) 1 rfl Tryd.underlying42 info5 rfl (by decide) (by omega) u9000_ l0 y126 _ _ _ (fun k_ => (P0_ k_ ∨ w.heap.size ≤ k_) ∧ some k_ ≠ (.slice Ao28 y126.length co28 : Value).ownBlock) (fun _ => False) rfl rfl ?aO ?aR (fun _ _ h => h) (fun _ h => h.elim) ?aF ?aB ?aS ?aL ?_; (case aR => repeat (exact (Kd.R_reads' HO128.out).2.2)); (case aB => exact HB.out); (case aF => exact (fun k_ hk => ⟨(.inr (Nat.le_trans HK.out.1 hk)), Kd.fresh' (Kd.R_lt HO128.out) k_ hk⟩)); (case aO => exact HO_0.out); (case aS => exact (below_size HB.out)); (case aL => have := LMc24.out; omega); intro v130 w27 ho hb hg hat; rw [← Ny129.out] at ho; replace HO128 := am (Kd.R_after (ok := (fun k_ => (P0_ k_ ∨ w.heap.size ≤ k_))) (by exact Kd.R_mono HO128.out (fun _ hk => ⟨hk.1.1, hk.2⟩)) hg hat); replace HB := am hb; replace HK := am (Kept.of_grown (S := (fun k_ => P0_ k_)) hg HK.out (fun k_ e_ => (HO_0.out.1 k_ e_).1)); have HO131 := am ho; clear HO_0; clear ho hb hg hat))
                go_ret
                exact ⟨_, rfl, by exact Kd.R_mono HO131.out (fun _ hk => hk.1), by exact HB.out, by exact HK.out⟩
def spec_l1Digit.f (a0 : Int) : Option (Bool) := if a0 ≥ 48 then (some (decide (a0 ≤ 57))) else (some false)
set_option maxHeartbeats 8000000 in
set_option maxRecDepth 100000 in
theorem spec_l1Digit.calls (a0 : Int) (r : Bool) (w : World) (h : spec_l1Digit.f a0 = some r) :
    Calls Tryd.prog 57 #[.int .u8 a0] w fun e w' => e = .returned (.bool r) ∧ Drawn0 w w' := by
  have H := h
  clear h
  unfold spec_l1Digit.f at H
  by_cases c2 : a0 ≥ 48
  · rw [if_pos c2] at H
    have c2b0 : decide (48 ≤ a0) = true := decide_eq_true c2
    clear c2
    obtain rfl := Option.some.inj H
    go_enter Tryd.func57, Tryd.ntmps57
    go_wp2
    go_ret
    exact ⟨rfl, by repeat (exact Drawn0.refl _)⟩
  · rw [if_neg c2] at H
    have c2b0 : decide (48 ≤ a0) = false := decide_eq_false c2
    clear c2
    obtain rfl := Option.some.inj H
    go_enter Tryd.func57, Tryd.ntmps57
    go_wp2
    go_ret
    exact ⟨rfl, by repeat (exact Drawn0.refl _)⟩
def spec_l2Hex.j0 : Nat → Int → Bool → Option (Int)
  | 0, _, _ => none
  | k + 1, x0, x13 => if x13 = true then (some (((x0 - 97) % 256) + 10)) else (if x0 ≥ 65 then (if x0 ≤ 70 then (some (((x0 - 65) % 256) + 10)) else (some 99)) else (some 99))
def spec_l2Hex.f (k : Nat) (a0 : Int) : Option (Int) := (spec_l1Digit.f a0).bind fun t132 => (if t132 = true then (some ((a0 - 48) % 256)) else (if a0 ≥ 97 then (spec_l2Hex.j0 k a0 (decide (a0 ≤ 102))) else (spec_l2Hex.j0 k a0 false)))
theorem spec_l2Hex.mono_l : ∀ k, (∀ y0 y1, LeO (spec_l2Hex.j0 k y0 y1) (spec_l2Hex.j0 (k + 1) y0 y1))
  | 0 => fun _ _ r h => by simp [spec_l2Hex.j0] at h
  | k + 1 => by
    have ih0 := spec_l2Hex.mono_l k
    · intro y0 y1
      unfold spec_l2Hex.j0
      repeat' first
      | (with_reducible exact ih0 _ _)
      | (with_reducible exact LeO.refl _)
      | (with_reducible exact LeO.none _)
      | (with_reducible refine LeO.ite ?_ ?_)
      | (with_reducible refine LeO.bind ?_ (fun _ => ?_))
      | exact ih0 _ _
      | exact LeO.none _
      | refine LeO.ite ?_ ?_
      | refine LeO.bind ?_ (fun _ => ?_)
theorem spec_l2Hex.mono : ∀ a0 k, LeO (spec_l2Hex.f k a0) (spec_l2Hex.f (k + 1) a0) := by
  intro a0 k
  have ih0 := spec_l2Hex.mono_l k
  unfold spec_l2Hex.f
  repeat' first
      | (with_reducible exact ih0 _ _)
      | (with_reducible exact LeO.refl _)
      | (with_reducible exact LeO.none _)
      | (with_reducible refine LeO.ite ?_ ?_)
      | (with_reducible refine LeO.bind ?_ (fun _ => ?_))
      | exact ih0 _ _
      | exact LeO.none _
      | refine LeO.ite ?_ ?_
      | refine LeO.bind ?_ (fun _ => ?_)
set_option maxHeartbeats 8000000 in
set_option maxRecDepth 100000 in
theorem spec_l2Hex.calls (k : Nat) (a0 : Int) (r : Int) (w : World) (h : spec_l2Hex.f k a0 = some r) :
    Calls Tryd.prog 76 #[.int .u8 a0] w fun e w' => e = .returned (.int .i64 r) ∧ Drawn0 w w' := by
  have H := h
  clear h
  unfold spec_l2Hex.f at H
  obtain ⟨t132, A2, H⟩ := bnd H
  obtain rfl | rfl := boo t132
  · rw [if_pos rfl] at H
    obtain rfl := Option.some.inj H
    go_enter Tryd.func76, Tryd.ntmps76
    go_wp2_with (((with_reducible refine gate_callee (f := 57) rfl ?_); refine goesL_ (some 4) rfl rfl Tryd.func57 (by kernel_rfl) rfl #[.int .u8 a0] rfl (by simp only [List.map_toArray, List.map_cons, List.map_nil]; rfl) ?_; (with_reducible refine (spec_l1Digit.calls a0 true _ A2.out).mono ?_); rintro e w' ⟨rfl, ⟨nd, rfl⟩⟩; refine ⟨_, rfl, ?_⟩))
    go_ret
    exact ⟨rfl, by repeat (first | exact Drawn0.refl _ | apply Drawn0.step)⟩
  · rw [if_neg nft] at H
    have HC4 := am H
    clear H
    go_enter Tryd.func76, Tryd.ntmps76
    go_upto_region 3 with (((with_reducible refine gate_callee (f := 57) rfl ?_); refine goesL_ (some 4) rfl rfl Tryd.func57 (by kernel_rfl) rfl #[.int .u8 a0] rfl (by simp only [List.map_toArray, List.map_cons, List.map_nil]; rfl) ?_; (with_reducible refine (spec_l1Digit.calls a0 false _ A2.out).mono ?_); rintro e w' ⟨rfl, ⟨nd, rfl⟩⟩; refine ⟨_, rfl, ?_⟩))
    (try simp only [Act.put, List.setIfInBounds_toArray, List.set_cons_zero, List.set_cons_succ])
    go_cut [13] (fun v13 wc => ∃ (kq : Nat) (x13_3 : Bool), v13 = .bool x13_3 ∧ Aside0 (spec_l2Hex.j0 kq a0 x13_3 = some r) ∧ Aside0 (kq ≤ k) ∧ Drawn0 w wc)
    case first =>
      have H := HC4.out
      clear HC4
      by_cases c5 : a0 ≥ 97
      · rw [if_pos c5] at H
        have c5b0 : decide (97 ≤ a0) = true := decide_eq_true c5
        clear c5
        have H' := am H
        clear H
        go_wp2
        go_meet
        case rel => exact ⟨_, (decide (a0 ≤ 102)), rfl, H', ⟨by omega⟩, by repeat (first | exact Drawn0.refl _ | apply Drawn0.step)⟩
      · rw [if_neg c5] at H
        have c5b0 : decide (97 ≤ a0) = false := decide_eq_false c5
        clear c5
        have H' := am H
        clear H
        go_wp2
        go_meet
        case rel => exact ⟨_, (false), rfl, H', ⟨by omega⟩, by repeat (first | exact Drawn0.refl _ | apply Drawn0.step)⟩
    case rest =>
      clear HC4
      obtain ⟨kq, x13_3, rfl, HA, HJ3, ⟨mc3, rfl⟩⟩ := hcut
      cases kq with
      | zero => exact absurd HA.out (by simp [spec_l2Hex.j0])
      | succ kj3 =>
        have H := HA.out
        clear HA
        simp only [spec_l2Hex.j0] at H
        by_cases c6 : x13_3 = true
        · subst c6
          rw [if_pos rfl] at H
          obtain rfl := Option.some.inj H
          go_wp2
          go_ret
          exact ⟨rfl, by repeat (first | exact Drawn0.refl _ | apply Drawn0.step)⟩
        · replace c6 := Bool.eq_false_iff.mpr c6
          subst c6
          rw [if_neg nft] at H
          by_cases c7 : a0 ≥ 65
          · rw [if_pos c7] at H
            have c7b0 : decide (65 ≤ a0) = true := decide_eq_true c7
            clear c7
            by_cases c8 : a0 ≤ 70
            · rw [if_pos c8] at H
              have c8b0 : decide (a0 ≤ 70) = true := decide_eq_true c8
              clear c8
              obtain rfl := Option.some.inj H
              go_wp2
              go_ret
              exact ⟨rfl, by repeat (first | exact Drawn0.refl _ | apply Drawn0.step)⟩
            · rw [if_neg c8] at H
              have c8b0 : decide (a0 ≤ 70) = false := decide_eq_false c8
              clear c8
              obtain rfl := Option.some.inj H
              go_wp2
              go_ret
              exact ⟨rfl, by repeat (first | exact Drawn0.refl _ | apply Drawn0.step)⟩
          · rw [if_neg c7] at H
            have c7b0 : decide (65 ≤ a0) = false := decide_eq_false c7
            clear c7
            obtain rfl := Option.some.inj H
            go_wp2
            go_ret
            exact ⟨rfl, by repeat (first | exact Drawn0.refl _ | apply Drawn0.step)⟩
end Go.Proofs.YtnjnoabldjodcaaDoor.PFnExactTokens
