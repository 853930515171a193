/- Cut by a program (shake.py) out of what print.sh wrote for this law: what the row needs of it. -/
import Derived.Test.YtcjaakbmabhmdaaX0
namespace Go.Proofs.Ytcjaakbmabhmdaa.PFnExactFire
open Go.RowKit Go.Proofs.YtcjaakbmabhmdaaW.PrintWords Go.Proofs.YtcjaakbmabhmdaaW.PrintLast Go.Proofs.YtcjaakbmabhmdaaW.PrintMore
set_option linter.unusedVariables false
set_option linter.unusedSimpArgs false
theorem ownBlock_any (A : Option Addr) (n m c d : Nat) : (Value.slice A n c).ownBlock = (Value.slice A m d).ownBlock := by cases A <;> rfl
mutual
def spec_l4Parents.l0 : Nat → List (S52) → List Int → List Int → List Int → Int → Option (List Int)
  | 0, _, _, _, _, _ => none
  | k + 1, x0, x3, x4, x5, x6 => if x6 < (x0.length : Int) then (if 0 ≤ x6 then (if x6 < (x3.length : Int) then ((some (x3.set (x6 : Int).toNat (-1) : List Int)).bind fun y157 => (if (x4.length : Int) > 0 then (if 0 ≤ (wrap64 ((x4.length : Int) - 1)) then (if (wrap64 ((x4.length : Int) - 1)) < (x4.length : Int) then (if 0 ≤ (wrap64 ((x5.length : Int) - 1)) then (if (wrap64 ((x5.length : Int) - 1)) < (x5.length : Int) then (spec_l4Parents.j1 k x0 (y157.set (x6 : Int).toNat (rd x4 (wrap64 ((x4.length : Int) - 1)))) x4 (x5.set ((wrap64 ((x5.length : Int) - 1)) : Int).toNat (wrap64 ((rd x5 (wrap64 ((x5.length : Int) - 1))) - 1))) x6) else (none)) else (none)) else (none)) else (none)) else (spec_l4Parents.j1 k x0 y157 x4 x5 x6))) else (none)) else (none)) else (some x3)
def spec_l4Parents.j1 : Nat → List (S52) → List Int → List Int → List Int → Int → Option (List Int)
  | 0, _, _, _, _, _ => none
  | k + 1, x0, x3, x4, x5, x6 => if x4.length < 17592186044416 then (if 0 ≤ x6 then (if x6 < (x0.length : Int) then (if x5.length < 17592186044416 then (spec_l4Parents.l1 k x0 x3 (x4 ++ [x6]) (x5 ++ [(rd_T52 x0 x6).f5]) x6) else (none)) else (none)) else (none)) else (none)
def spec_l4Parents.l1 : Nat → List (S52) → List Int → List Int → List Int → Int → Option (List Int)
  | 0, _, _, _, _, _ => none
  | k + 1, x0, x3, x4, x5, x6 => if (x5.length : Int) > 0 then (if 0 ≤ (wrap64 ((x5.length : Int) - 1)) then (if (wrap64 ((x5.length : Int) - 1)) < (x5.length : Int) then (if (rd x5 (wrap64 ((x5.length : Int) - 1))) = 0 then (if 0 ≤ (wrap64 ((x4.length : Int) - 1)) then (if (wrap64 ((x4.length : Int) - 1)) ≤ (x4.length : Int) then (if (wrap64 ((x5.length : Int) - 1)) ≤ (x5.length : Int) then (spec_l4Parents.l1 k x0 x3 (x4.take ((wrap64 ((x4.length : Int) - 1)) : Int).toNat) (x5.take ((wrap64 ((x5.length : Int) - 1)) : Int).toNat) x6) else (none)) else (none)) else (none)) else (spec_l4Parents.l0 k x0 x3 x4 x5 (wrap64 (x6 + 1)))) else (none)) else (none)) else (spec_l4Parents.l0 k x0 x3 x4 x5 (wrap64 (x6 + 1)))
end
def spec_l4Parents.f (k : Nat) (l0 : List (S52)) : Option (List Int) := if 0 ≤ (l0.length : Int) then (if ((l0.length : Int) : Int).toNat ≤ 35184372088832 then (spec_l4Parents.l0 k l0 (List.replicate ((l0.length : Int) : Int).toNat 0) (([] : List Int)) (([] : List Int)) 0) else (none)) else (none)
set_option maxHeartbeats 8000000 in
set_option maxRecDepth 100000 in
theorem spec_l4Parents.calls (k : Nat) (A0 : Option Addr) (c0 : Nat) (l0 : List (S52)) (r : List Int) (w : World) (hr0 : Kd.C k52 w A0 l0.length l0) (hc0 : l0.length ≤ c0) (h : spec_l4Parents.f k l0 = some r) :
    Calls Try.prog 22 #[.slice A0 l0.length c0] w fun e w' => ∃ v0_ : Value, e = .returned (v0_) ∧ Kd.R (Kd.int .i64) 3 w' w.heap.size (fun _ => True) v0_ r ∧ Below w.heap.size w w' := by
  have HR0 := Aside0.mk hr0
  have HC0 := Aside0.mk hc0
  clear hr0 hc0
  have HB := Aside0.mk (Below.refl w.heap.size w)
  have H : (if 0 ≤ (l0.length : Int) then (if ((l0.length : Int) : Int).toNat ≤ 35184372088832 then (spec_l4Parents.l0 k l0 (List.replicate ((l0.length : Int) : Int).toNat 0) (([] : List Int)) (([] : List Int)) 0) else (none)) else (none)) = some r := h
  clear h
  by_cases c2 : 0 ≤ (l0.length : Int)
  · rw [if_pos c2] at H
    have c2b0 := eq_true c2
    have c2b1 : decide (0 ≤ (l0.length : Int)) = true := decide_eq_true c2
    clear c2
    by_cases c3 : ((l0.length : Int) : Int).toNat ≤ 35184372088832
    · rw [if_pos c3] at H
      have c3b0 := eq_true c3
      have c3b1 : decide (((l0.length : Int) : Int).toNat ≤ 35184372088832) = true := decide_eq_true c3
      clear c3
      obtain ⟨y148, hy148⟩ : ∃ y_ : List Int, y_ = (List.replicate ((l0.length : Int) : Int).toNat 0) := ⟨_, rfl⟩
      replace H : (spec_l4Parents.l0 k l0 y148 (([] : List Int)) (([] : List Int)) 0) = some r := by first | (rw [hy148]; with_reducible exact H) | (have H2_ := (Option.bind_some _ _).symm.trans H; rw [hy148]; with_reducible exact H2_) | (have H2_ := (Option.bind_some _ _).symm.trans H; with_reducible exact H2_) | with_reducible exact H | (rw [hy148]; exact H) | exact H
      have Ny148 := Aside0.mk hy148
      clear hy148
      obtain ⟨y151, hy151⟩ : ∃ y_ : List Int, y_ = (([] : List Int)) := ⟨_, rfl⟩
      replace H : (spec_l4Parents.l0 k l0 y148 y151 (([] : List Int)) 0) = some r := by first | (rw [hy151]; with_reducible exact H) | (have H2_ := (Option.bind_some _ _).symm.trans H; rw [hy151]; with_reducible exact H2_) | (have H2_ := (Option.bind_some _ _).symm.trans H; with_reducible exact H2_) | with_reducible exact H | (rw [hy151]; exact H) | exact H
      have Ny151 := Aside0.mk hy151
      clear hy151
      obtain ⟨y154, hy154⟩ : ∃ y_ : List Int, y_ = (([] : List Int)) := ⟨_, rfl⟩
      replace H : (spec_l4Parents.l0 k l0 y148 y151 y154 0) = some r := by first | (rw [hy154]; with_reducible exact H) | (have H2_ := (Option.bind_some _ _).symm.trans H; rw [hy154]; with_reducible exact H2_) | (have H2_ := (Option.bind_some _ _).symm.trans H; with_reducible exact H2_) | with_reducible exact H | (rw [hy154]; exact H) | exact H
      have Ny154 := Aside0.mk hy154
      clear hy154
      have H' := Aside0.mk H
      clear H
      go_enter Try.func22, Try.ntmps22
      go_wp2_with (first | ((with_reducible refine gate_dst (N := 9) rfl ?_); (try (refine gate_guard (by rfl) ?_; dsimp only)); refine Kd.R_make (Kd.int .i64) _ 3 rfl (N := 9) rfl 28 _ _ rfl (l0.length : Int) rfl rfl Try.underlying28 (.int .i64 0) 8 info3 rfl (by decide) (by omega) 0 (ok := fun _ => True) (okp := fun _ => True) rfl (fun _ hk => hk) trivial (of_decide_eq_true (by first | (with_reducible assumption) | assumption)) (Nat.le_trans (Nat.mul_le_mul_right _ (of_decide_eq_true (by first | (with_reducible assumption) | assumption) : (l0.length : Int).toNat ≤ 35184372088832)) (by omega)) (Below.refl _ _) (Nat.le_refl _) ?_; intro v149 w4 ho5 hb hg_ hnew_; clear hg_ hnew_; (first | rw [← Ny148.out] at ho5 | (simp only [Int.reduceToNat] at ho5; rw [← Ny148.out] at ho5)); have n0_ := Aside0.mk (Kd.R_lower ho5 (below_size (by repeat (first | (with_reducible first | exact HB.out | apply below_alloc | apply pw_below_drewN | apply below_drew1) | exact HB.out)))); have n1_ := Aside0.mk (below_step (by repeat (first | (with_reducible first | exact HB.out | apply below_alloc | apply pw_below_drewN | apply below_drew1) | exact HB.out)) hb); clear HB; have HO150 := n0_; have HB := n1_; clear n0_ n1_; clear hb ho5) | ((with_reducible refine gate_dst (N := 10) rfl ?_); (try (refine gate_guard (by rfl) ?_; dsimp only)); refine Kd.R_lit (Kd.int .i64) _ 3 ?hg (N := 10) ?hd (xs := ([] : List Int)) (inner := []) (ok := fun _ => True) (okp := fun _ => True) ?hr ?hp (fun _ hk => hk) trivial (Below.refl _ _) (Nat.le_refl _) (by simp) ?_; (case hd => rfl); (case hg => rfl); (case hr => first | (go_simp; done) | (go_simp; rfl)); (case hp => exact (Reps.none _ _)); intro v152 w6 ho7 hb hg_ hnew_; clear hg_ hnew_; (first | rw [← Ny151.out] at ho7 | (simp only [Int.reduceToNat] at ho7; rw [← Ny151.out] at ho7)); have n0_ := Aside0.mk (Kd.R_elder' (by (with_reducible repeat (first | apply Kd.R_alloc | apply Kd.R_drewN | apply Kd.R_drew)); exact HO150.out) (Kd.R_base ho7) hb); have n1_ := Aside0.mk (Kd.R_lower (Kd.R_new' ho7 (Kd.R_lt (by (with_reducible repeat (first | apply Kd.R_alloc | apply Kd.R_drewN | apply Kd.R_drew)); exact HO150.out))) (below_size (by repeat (first | (with_reducible first | exact HB.out | apply below_alloc | apply pw_below_drewN | apply below_drew1) | exact HB.out)))); have n2_ := Aside0.mk (below_step (by repeat (first | (with_reducible first | exact HB.out | apply below_alloc | apply pw_below_drewN | apply below_drew1) | exact HB.out)) hb); clear HO150; clear HB; have HO150 := n0_; have HO153 := n1_; have HB := n2_; clear n0_ n1_ n2_; clear hb ho7) | ((with_reducible refine gate_dst (N := 11) rfl ?_); (try (refine gate_guard (by rfl) ?_; dsimp only)); refine Kd.R_lit (Kd.int .i64) _ 3 ?hg (N := 11) ?hd (xs := ([] : List Int)) (inner := []) (ok := fun _ => True) (okp := fun _ => True) ?hr ?hp (fun _ hk => hk) trivial (Below.refl _ _) (Nat.le_refl _) (by simp) ?_; (case hd => rfl); (case hg => rfl); (case hr => first | (go_simp; done) | (go_simp; rfl)); (case hp => exact (Reps.none _ _)); intro v155 w8 ho9 hb hg_ hnew_; clear hg_ hnew_; (first | rw [← Ny154.out] at ho9 | (simp only [Int.reduceToNat] at ho9; rw [← Ny154.out] at ho9)); have n0_ := Aside0.mk (Kd.R_elder' (by (with_reducible repeat (first | apply Kd.R_alloc | apply Kd.R_drewN | apply Kd.R_drew)); exact HO150.out) (Kd.R_base ho9) hb); have n1_ := Aside0.mk (Kd.R_elder' (by (with_reducible repeat (first | apply Kd.R_alloc | apply Kd.R_drewN | apply Kd.R_drew)); exact HO153.out) (Kd.R_base ho9) hb); have n2_ := Aside0.mk (Kd.R_lower (Kd.R_new' (Kd.R_new' ho9 (Kd.R_lt (by (with_reducible repeat (first | apply Kd.R_alloc | apply Kd.R_drewN | apply Kd.R_drew)); exact HO150.out))) (Kd.R_lt (by (with_reducible repeat (first | apply Kd.R_alloc | apply Kd.R_drewN | apply Kd.R_drew)); exact HO153.out))) (below_size (by repeat (first | (with_reducible first | exact HB.out | apply below_alloc | apply pw_below_drewN | apply below_drew1) | exact HB.out)))); have n3_ := Aside0.mk (below_step (by repeat (first | (with_reducible first | exact HB.out | apply below_alloc | apply pw_below_drewN | apply below_drew1) | exact HB.out)) hb); clear HO150; clear HO153; clear HB; have HO150 := n0_; have HO153 := n1_; have HO156 := n2_; have HB := n3_; clear n0_ n1_ n2_ n3_; clear hb ho9))
      go_loopg [4, 5, 6] k (fun kq v4 v5 v6 w' => ∃ (x3_1 : List Int) (x4_1 : List Int) (x5_1 : List Int) (x6_1 : Int), v6 = .int .i64 x6_1 ∧ Aside0 (spec_l4Parents.l0 kq l0 x3_1 x4_1 x5_1 x6_1 = some r) ∧ Aside0 (kq ≤ k) ∧ Aside0 (Kd.R (Kd.int .i64) 3 w' w.heap.size (fun k_ => some k_ ≠ (v4 : Value).ownBlock ∧ some k_ ≠ (v5 : Value).ownBlock) v149 x3_1) ∧ Aside0 (Kd.R (Kd.int .i64) 3 w' w.heap.size (fun k_ => some k_ ≠ (v149 : Value).ownBlock ∧ some k_ ≠ (v5 : Value).ownBlock) v4 x4_1) ∧ Aside0 (Kd.R (Kd.int .i64) 3 w' w.heap.size (fun k_ => some k_ ≠ (v149 : Value).ownBlock ∧ some k_ ≠ (v4 : Value).ownBlock) v5 x5_1) ∧ Aside0 (Below w.heap.size w w'))
      case atStart => exact ⟨(y148), (y151), (y154), (0), (by first | rfl | (simp; done) | (simp [*]; done)), H', ⟨Nat.le_refl _⟩, ⟨by (with_reducible repeat (first | apply Kd.R_alloc | apply Kd.R_drewN | apply Kd.R_drew)); exact Kd.R_mono HO150.out (fun _ hk => ⟨hk.1.2, hk.2⟩)⟩, ⟨by (with_reducible repeat (first | apply Kd.R_alloc | apply Kd.R_drewN | apply Kd.R_drew)); exact Kd.R_mono HO153.out (fun _ hk => ⟨hk.1.2, hk.2⟩)⟩, ⟨by (with_reducible repeat (first | apply Kd.R_alloc | apply Kd.R_drewN | apply Kd.R_drew)); exact Kd.R_mono HO156.out (fun _ hk => ⟨hk.1.2, hk.2⟩)⟩, ⟨by repeat (first | (with_reducible first | exact HB.out | apply below_alloc | apply pw_below_drewN | apply below_drew1) | exact HB.out)⟩⟩
      case round =>
        clear H'
        try clear c2
        try clear c2b0
        try clear c2b1
        try clear p2
        try clear c3
        try clear c3b0
        try clear c3b1
        obtain ⟨x3_1, x4_1, x5_1, x6_1, rfl, HA, HK1, HO_3, HO_4, HO_5, HB⟩ := hrel
        cases gk with
        | zero => exact absurd HA.out (by simp [spec_l4Parents.l0])
        | succ k1 =>
          have H := HA.out
          clear HA
          simp only [spec_l4Parents.l0] at H
          by_cases c10 : x6_1 < (l0.length : Int)
          · rw [if_pos c10] at H
            have c10b0 : decide (x6_1 < (l0.length : Int)) = true := decide_eq_true c10
            clear c10
            by_cases c11 : 0 ≤ x6_1
            · rw [if_pos c11] at H
              have c11b0 : decide (0 ≤ x6_1) = true := decide_eq_true c11
              clear c11
              by_cases c12 : x6_1 < (x3_1.length : Int)
              · rw [if_pos c12] at H
                have c12b0 : decide (x6_1 < (x3_1.length : Int)) = true := decide_eq_true c12
                clear c12
                obtain ⟨y157, hy157⟩ : ∃ y_ : List Int, y_ = (x3_1.set (x6_1 : Int).toNat (-1)) := ⟨_, rfl⟩
                replace H : (if (x4_1.length : Int) > 0 then (if 0 ≤ (wrap64 ((x4_1.length : Int) - 1)) then (if (wrap64 ((x4_1.length : Int) - 1)) < (x4_1.length : Int) then (if 0 ≤ (wrap64 ((x5_1.length : Int) - 1)) then (if (wrap64 ((x5_1.length : Int) - 1)) < (x5_1.length : Int) then (spec_l4Parents.j1 k1 l0 (y157.set (x6_1 : Int).toNat (rd x4_1 (wrap64 ((x4_1.length : Int) - 1)))) x4_1 (x5_1.set ((wrap64 ((x5_1.length : Int) - 1)) : Int).toNat (wrap64 ((rd x5_1 (wrap64 ((x5_1.length : Int) - 1))) - 1))) x6_1) else (none)) else (none)) else (none)) else (none)) else (spec_l4Parents.j1 k1 l0 y157 x4_1 x5_1 x6_1)) = some r := by first | (rw [hy157]; with_reducible exact H) | (have H2_ := (Option.bind_some _ _).symm.trans H; rw [hy157]; with_reducible exact H2_) | (have H2_ := (Option.bind_some _ _).symm.trans H; with_reducible exact H2_) | with_reducible exact H | (rw [hy157]; exact H) | exact H
                have Ny157 := Aside0.mk hy157
                clear hy157
                have HC14 := Aside0.mk H
                clear H
                have p13 : 0 ≤ (x6_1 : Int) := of_decide_eq_true (by first | (with_reducible assumption) | assumption)
                have q13 : (x6_1 : Int) < ((x3_1.length : Int) : Int) := of_decide_eq_true (by first | (with_reducible assumption) | assumption)
                obtain ⟨go13, co13, eo13, gb13, gl13, cl13, HG13⟩ := Kd.R_form HO_3.out (by omega)
                (first | cases eo13 | (injection eo13 with ea_ en_ ec_; (first | subst ea_ | (injection ea_ with ea_; subst ea_)); subst ec_; clear en_))
                have GB13 := Aside0.mk gb13
                have GG13 := Aside0.mk HG13
                clear gb13 gl13 HG13
                obtain ⟨hx13_0, hf13_0⟩ := Kd.R_celln 0 HO_3.out (x6_1 : Int) p13 q13
                replace p13 := eq_true p13
                replace q13 := eq_true q13
                have HP15 := Kd.R_putg HO_3.out (x6_1 : Int) (-1)
                go_upto_if 23 with (first | ((with_reducible refine gate_store (t := 3) (p := 20) rfl ?_); refine store_event (t := 3) (p := 20) (v := ?vo_w16) (w1 := (wr.setCell ⟨go13, (x6_1 : Int).toNat, none⟩ (.int .i64 (-1)))) ?hg ?ho ?hn ?hr ?_; (case ho => rfl); (case hg => rfl); (case hn => rfl); (case hr => first | (go_simp; done) | (go_simp; rfl)); intro w16 hw; have hg : wr.grownBy w16 (some go13) := (by rw [hw]; exact HP15.2); have hp_ : Kd.R (Kd.int .i64) 3 w16 w.heap.size (fun k_ => some k_ ≠ (u4 : Value).ownBlock ∧ some k_ ≠ (u5 : Value).ownBlock) (.slice (some ⟨go13, 0, none⟩) x3_1.length co13) y157 := (by rw [hw, Ny157.out]; exact HP15.1); clear HP15; have n0_ := Aside0.mk (hp_); have n1_ := Aside0.mk (Kd.R_after (v := (.slice (some ⟨go13, 0, none⟩) x3_1.length co13)) (v1 := (.slice (some ⟨go13, 0, none⟩) x3_1.length co13)) (ok := (fun k_ => some k_ ≠ (u5 : Value).ownBlock)) (by (with_reducible repeat (first | apply Kd.R_alloc | apply Kd.R_drewN | apply Kd.R_drew)); exact Kd.R_mono HO_4.out (fun _ hk => ⟨hk.2, hk.1⟩)) hg (.inl rfl)); have n2_ := Aside0.mk (Kd.R_after (v := (.slice (some ⟨go13, 0, none⟩) x3_1.length co13)) (v1 := (.slice (some ⟨go13, 0, none⟩) x3_1.length co13)) (ok := (fun k_ => some k_ ≠ (u4 : Value).ownBlock)) (by (with_reducible repeat (first | apply Kd.R_alloc | apply Kd.R_drewN | apply Kd.R_drew)); exact Kd.R_mono HO_5.out (fun _ hk => ⟨hk.2, hk.1⟩)) hg (.inl rfl)); have n3_ := Aside0.mk ((by rw [hw]; exact below_set (HB.out) GB13.out : Below w.heap.size w w16)); clear HO_3; clear HO_4; clear HO_5; clear HB; have HO_3 := n0_; have HO_4 := n1_; have HO_5 := n2_; have HB := n3_; clear n0_ n1_ n2_ n3_; clear hg hw hp_; obtain ⟨Ao17, co17, eo17⟩ := Kd.R_slice HO_4.out; subst eo17))
                (try simp only [Act.put, List.setIfInBounds_toArray, List.set_cons_zero, List.set_cons_succ])
                go_cut [] (fun wc => ∃ (kq : Nat) (x3_13 : List Int) (x5_13 : List Int), Aside0 (spec_l4Parents.j1 kq l0 x3_13 x4_1 x5_13 x6_1 = some r) ∧ Aside0 (kq ≤ k1) ∧ Aside0 (Kd.R (Kd.int .i64) 3 wc w.heap.size (fun k_ => some k_ ≠ ((.slice Ao17 x4_1.length co17) : Value).ownBlock ∧ some k_ ≠ (u5 : Value).ownBlock) (.slice (some ⟨go13, 0, none⟩) x3_1.length co13) x3_13) ∧ Aside0 (Kd.R (Kd.int .i64) 3 wc w.heap.size (fun k_ => some k_ ≠ ((.slice (some ⟨go13, 0, none⟩) x3_1.length co13) : Value).ownBlock ∧ some k_ ≠ (u5 : Value).ownBlock) (.slice Ao17 x4_1.length co17) x4_1) ∧ Aside0 (Kd.R (Kd.int .i64) 3 wc w.heap.size (fun k_ => some k_ ≠ ((.slice (some ⟨go13, 0, none⟩) x3_1.length co13) : Value).ownBlock ∧ some k_ ≠ ((.slice Ao17 x4_1.length co17) : Value).ownBlock) u5 x5_13) ∧ Aside0 (Below w.heap.size w wc))
                case first =>
                  have H := HC14.out
                  clear HC14
                  by_cases c18 : (x4_1.length : Int) > 0
                  · rw [if_pos c18] at H
                    have c18b0 : decide (0 < (x4_1.length : Int)) = true := decide_eq_true c18
                    have c18b1 : decide (0 < x4_1.length) = true := decide_eq_true (by omega)
                    clear c18
                    (first | rw [c18b0] | (simp only [i64_w, i32_w]; rw [c18b0]) | rw [c18b1] | simp only [c18b1] | skip)
                    obtain ⟨ji19, hji19⟩ : ∃ j_ : Int, (wrap64 ((x4_1.length : Int) - 1)) = j_ := ⟨_, rfl⟩
                    replace H : (if 0 ≤ (ji19) then (if (ji19) < (x4_1.length : Int) then (if 0 ≤ (wrap64 ((x5_1.length : Int) - 1)) then (if (wrap64 ((x5_1.length : Int) - 1)) < (x5_1.length : Int) then (spec_l4Parents.j1 k1 l0 (y157.set (x6_1 : Int).toNat (rd x4_1 (ji19))) x4_1 (x5_1.set ((wrap64 ((x5_1.length : Int) - 1)) : Int).toNat (wrap64 ((rd x5_1 (wrap64 ((x5_1.length : Int) - 1))) - 1))) x6_1) else (none)) else (none)) else (none)) else (none)) = some r := by first | (rw [hji19] at H; exact H) | (simp only [hji19] at H ⊢; exact H)
                    have hji19w : (IntKind.i64.wrap ((x4_1.length : Int) - 1)) = ji19 := (i64_w _).trans hji19
                    by_cases c20 : 0 ≤ (ji19)
                    · rw [if_pos c20] at H
                      have c20b0 : decide (0 ≤ (ji19)) = true := decide_eq_true c20
                      clear c20
                      by_cases c21 : (ji19) < (x4_1.length : Int)
                      · rw [if_pos c21] at H
                        have c21b0 : decide ((ji19) < (x4_1.length : Int)) = true := decide_eq_true c21
                        clear c21
                        obtain ⟨y159, hy159⟩ : ∃ y_ : List Int, y_ = (y157.set (x6_1 : Int).toNat (rd x4_1 (ji19))) := ⟨_, rfl⟩
                        replace H : (if 0 ≤ (wrap64 ((x5_1.length : Int) - 1)) then (if (wrap64 ((x5_1.length : Int) - 1)) < (x5_1.length : Int) then (spec_l4Parents.j1 k1 l0 y159 x4_1 (x5_1.set ((wrap64 ((x5_1.length : Int) - 1)) : Int).toNat (wrap64 ((rd x5_1 (wrap64 ((x5_1.length : Int) - 1))) - 1))) x6_1) else (none)) else (none)) = some r := by first | (rw [hy159]; with_reducible exact H) | (have H2_ := (Option.bind_some _ _).symm.trans H; rw [hy159]; with_reducible exact H2_) | (have H2_ := (Option.bind_some _ _).symm.trans H; with_reducible exact H2_) | with_reducible exact H | (rw [hy159]; exact H) | exact H
                        have Ny159 := Aside0.mk hy159
                        clear hy159
                        obtain ⟨ji23, hji23⟩ : ∃ j_ : Int, (wrap64 ((x5_1.length : Int) - 1)) = j_ := ⟨_, rfl⟩
                        replace H : (if 0 ≤ (ji23) then (if (ji23) < (x5_1.length : Int) then (spec_l4Parents.j1 k1 l0 y159 x4_1 (x5_1.set ((ji23) : Int).toNat (wrap64 ((rd x5_1 (ji23)) - 1))) x6_1) else (none)) else (none)) = some r := by first | (rw [hji23] at H; exact H) | (simp only [hji23] at H ⊢; exact H)
                        have hji23w : (IntKind.i64.wrap ((x5_1.length : Int) - 1)) = ji23 := (i64_w _).trans hji23
                        by_cases c24 : 0 ≤ (ji23)
                        · rw [if_pos c24] at H
                          have c24b0 : decide (0 ≤ (ji23)) = true := decide_eq_true c24
                          clear c24
                          by_cases c25 : (ji23) < (x5_1.length : Int)
                          · rw [if_pos c25] at H
                            have c25b0 : decide ((ji23) < (x5_1.length : Int)) = true := decide_eq_true c25
                            clear c25
                            obtain ⟨y161, hy161⟩ : ∃ y_ : List Int, y_ = (x5_1.set ((ji23) : Int).toNat (wrap64 ((rd x5_1 (ji23)) - 1))) := ⟨_, rfl⟩
                            replace H : (spec_l4Parents.j1 k1 l0 y159 x4_1 y161 x6_1) = some r := by first | (rw [hy161]; with_reducible exact H) | (have H2_ := (Option.bind_some _ _).symm.trans H; rw [hy161]; with_reducible exact H2_) | (have H2_ := (Option.bind_some _ _).symm.trans H; with_reducible exact H2_) | with_reducible exact H | (rw [hy161]; exact H) | exact H
                            have Ny161 := Aside0.mk hy161
                            clear hy161
                            have H' := Aside0.mk H
                            clear H
                            have p158 : 0 ≤ ((ji19) : Int) := of_decide_eq_true (by first | (with_reducible assumption) | assumption)
                            have q158 : (ji19) < (x4_1.length : Int) := of_decide_eq_true (by first | (with_reducible assumption) | assumption)
                            obtain ⟨ad158, e158, hx158_0⟩ := Kd.at_int (Kd.R_reads' HO_4.out).2.2 (ji19) p158 q158
                            cases e158
                            replace p158 := eq_true p158
                            replace q158 := eq_true q158
                            have p22 : 0 ≤ (x6_1 : Int) := of_decide_eq_true (by first | (with_reducible assumption) | assumption)
                            have q22 : (x6_1 : Int) < ((x3_1.length : Int) : Int) := of_decide_eq_true (by first | (with_reducible assumption) | assumption)
                            obtain ⟨hx22_0, hf22_0⟩ := Kd.R_celln 0 HO_3.out (x6_1 : Int) p22 q22
                            replace p22 := eq_true p22
                            replace q22 := eq_true q22
                            have HP27 := Kd.R_putg HO_3.out (x6_1 : Int) (rd x4_1 (ji19))
                            go_wp2_with (first | ((with_reducible refine gate_store (t := 3) (p := 32) rfl ?_); refine store_event (t := 3) (p := 32) (v := ?vo_w28) (w1 := (w16.setCell ⟨go13, (x6_1 : Int).toNat, none⟩ (.int .i64 (rd x4_1 (ji19))))) ?hg ?ho ?hn ?hr ?_; (case ho => rfl); (case hg => rfl); (case hn => rfl); (case hr => first | (go_simp; done) | (go_simp; rfl)); intro w28 hw; have hg : w16.grownBy w28 (some go13) := (by rw [hw]; exact HP27.2); have hp_ : Kd.R (Kd.int .i64) 3 w28 w.heap.size (fun k_ => some k_ ≠ (.slice (some ad158) x4_1.length co17 : Value).ownBlock ∧ some k_ ≠ (u5 : Value).ownBlock) (.slice (some ⟨go13, 0, none⟩) x3_1.length co13) y159 := (by rw [hw, Ny159.out]; exact HP27.1); clear HP27; have n0_ := Aside0.mk (hp_); have n1_ := Aside0.mk (Kd.R_after (v := (.slice (some ⟨go13, 0, none⟩) x3_1.length co13)) (v1 := (.slice (some ⟨go13, 0, none⟩) x3_1.length co13)) (ok := (fun k_ => some k_ ≠ (u5 : Value).ownBlock)) (by (with_reducible repeat (first | apply Kd.R_alloc | apply Kd.R_drewN | apply Kd.R_drew)); exact HO_4.out) hg (.inl rfl)); have n2_ := Aside0.mk (Kd.R_after (v := (.slice (some ⟨go13, 0, none⟩) x3_1.length co13)) (v1 := (.slice (some ⟨go13, 0, none⟩) x3_1.length co13)) (ok := (fun k_ => some k_ ≠ (.slice (some ad158) x4_1.length co17 : Value).ownBlock)) (by (with_reducible repeat (first | apply Kd.R_alloc | apply Kd.R_drewN | apply Kd.R_drew)); exact HO_5.out) hg (.inl rfl)); have n3_ := Aside0.mk ((by rw [hw]; exact below_set (HB.out) GB13.out : Below w.heap.size w w28)); clear HO_3; clear HO_4; clear HO_5; clear HB; have HO_3 := n0_; have HO_4 := n1_; have HO_5 := n2_; have HB := n3_; clear n0_ n1_ n2_ n3_; clear hg hw hp_; obtain ⟨Ao29, co29, eo29⟩ := Kd.R_slice HO_5.out; subst eo29; have p160 : 0 ≤ ((ji23) : Int) := of_decide_eq_true (by first | (with_reducible assumption) | assumption); have q160 : (ji23) < (x5_1.length : Int) := of_decide_eq_true (by first | (with_reducible assumption) | assumption); obtain ⟨ad160, e160, hx160_0⟩ := Kd.at_int (Kd.R_reads' HO_5.out).2.2 (ji23) p160 q160; cases e160; replace p160 := eq_true p160; replace q160 := eq_true q160; have p26 : 0 ≤ ((ji23) : Int) := of_decide_eq_true (by first | (with_reducible assumption) | assumption); have q26 : ((ji23) : Int) < ((x5_1.length : Int) : Int) := of_decide_eq_true (by first | (with_reducible assumption) | assumption); obtain ⟨go26, co26, eo26, gb26, gl26, cl26, HG26⟩ := Kd.R_form HO_5.out (by omega); (first | cases eo26 | (injection eo26 with ea_ en_ ec_; (first | subst ea_ | (injection ea_ with ea_; subst ea_)); subst ec_; clear en_)); have GB26 := Aside0.mk gb26; have GG26 := Aside0.mk HG26; clear gb26 gl26 HG26; (first | simp only [add_plain] at hx160_0 | skip); obtain ⟨hx26_0, hf26_0⟩ := Kd.R_celln 0 HO_5.out ((ji23) : Int) p26 q26; replace p26 := eq_true p26; replace q26 := eq_true q26; obtain ⟨hy30_, hz30_⟩ := Kd.R_celln 0 HO_5.out ((ji23) : Int) (of_decide_eq_true (by first | (with_reducible assumption) | assumption)) (of_decide_eq_true (by first | (with_reducible assumption) | assumption)); have HP30 := Kd.R_putg HO_5.out ((ji23) : Int) (wrap64 ((rd x5_1 (ji23)) - 1))) | ((with_reducible refine gate_store (t := 3) (p := 40) rfl ?_); refine store_event (t := 3) (p := 40) (v := ?vo_w31) (w1 := (w28.setCell ⟨go26, ((ji23) : Int).toNat, none⟩ (.int .i64 (wrap64 ((rd x5_1 (ji23)) - 1))))) ?hg ?ho ?hn ?hr ?_; (case ho => rfl); (case hg => rfl); (case hn => rfl); (case hr => first | (go_simp; done) | (go_simp; rfl)); intro w31 hw; have hg : w28.grownBy w31 (some go26) := (by rw [hw]; exact HP30.2); have hp_ : Kd.R (Kd.int .i64) 3 w31 w.heap.size (fun k_ => some k_ ≠ (.slice (some ad158) x4_1.length co17 : Value).ownBlock ∧ some k_ ≠ (.slice (some ⟨go13, 0, none⟩) x3_1.length co13 : Value).ownBlock) (.slice (some ⟨go26, 0, none⟩) x5_1.length co29) y161 := (by rw [hw, Ny161.out]; exact HP30.1); clear HP30; have n0_ := Aside0.mk (Kd.R_after (v := (.slice (some ⟨go26, 0, none⟩) x5_1.length co29)) (v1 := (.slice (some ⟨go26, 0, none⟩) x5_1.length co29)) (ok := (fun k_ => some k_ ≠ (.slice (some ad158) x4_1.length co17 : Value).ownBlock)) (by (with_reducible repeat (first | apply Kd.R_alloc | apply Kd.R_drewN | apply Kd.R_drew)); exact HO_3.out) hg (.inl rfl)); have n1_ := Aside0.mk (Kd.R_after (v := (.slice (some ⟨go26, 0, none⟩) x5_1.length co29)) (v1 := (.slice (some ⟨go26, 0, none⟩) x5_1.length co29)) (ok := (fun k_ => some k_ ≠ (.slice (some ⟨go13, 0, none⟩) x3_1.length co13 : Value).ownBlock)) (by (with_reducible repeat (first | apply Kd.R_alloc | apply Kd.R_drewN | apply Kd.R_drew)); exact Kd.R_mono HO_4.out (fun _ hk => ⟨hk.2, hk.1⟩)) hg (.inl rfl)); have n2_ := Aside0.mk (hp_); have n3_ := Aside0.mk ((by rw [hw]; exact below_set (HB.out) GB26.out : Below w.heap.size w w31)); clear HO_3; clear HO_4; clear HO_5; clear HB; have HO_3 := n0_; have HO_4 := n1_; have HO_5 := n2_; have HB := n3_; clear n0_ n1_ n2_ n3_; clear hg hw hp_))
                            go_meet
                            case rel => exact ⟨_, (y159), (y161), H', ⟨by have := HK1.out; first | omega | exact Nat.le_refl _⟩, ⟨by (with_reducible repeat (first | apply Kd.R_alloc | apply Kd.R_drewN | apply Kd.R_drew)); exact HO_3.out⟩, ⟨by (with_reducible repeat (first | apply Kd.R_alloc | apply Kd.R_drewN | apply Kd.R_drew)); exact HO_4.out⟩, ⟨by (with_reducible repeat (first | apply Kd.R_alloc | apply Kd.R_drewN | apply Kd.R_drew)); exact Kd.R_mono HO_5.out (fun _ hk => ⟨hk.2, hk.1⟩)⟩, ⟨by repeat (first | (with_reducible first | exact HB.out | apply below_alloc | apply pw_below_drewN | apply below_drew1) | exact HB.out)⟩⟩
                          · rw [if_neg c25] at H
                            exact absurd H (by simp)
                        · rw [if_neg c24] at H
                          exact absurd H (by simp)
                      · rw [if_neg c21] at H
                        exact absurd H (by simp)
                    · rw [if_neg c20] at H
                      exact absurd H (by simp)
                  · rw [if_neg c18] at H
                    have c18b0 : decide (0 < (x4_1.length : Int)) = false := decide_eq_false c18
                    have c18b1 : decide (0 < x4_1.length) = false := decide_eq_false (by omega)
                    clear c18
                    (first | rw [c18b0] | (simp only [i64_w, i32_w]; rw [c18b0]) | rw [c18b1] | simp only [c18b1] | skip)
                    have H' := Aside0.mk H
                    clear H
                    go_wp2
                    go_meet
                    case rel => exact ⟨_, (y157), (x5_1), H', ⟨by have := HK1.out; first | omega | exact Nat.le_refl _⟩, ⟨by (with_reducible repeat (first | apply Kd.R_alloc | apply Kd.R_drewN | apply Kd.R_drew)); exact HO_3.out⟩, ⟨by (with_reducible repeat (first | apply Kd.R_alloc | apply Kd.R_drewN | apply Kd.R_drew)); exact Kd.R_mono HO_4.out (fun _ hk => ⟨hk.2, hk.1⟩)⟩, ⟨by (with_reducible repeat (first | apply Kd.R_alloc | apply Kd.R_drewN | apply Kd.R_drew)); exact Kd.R_mono HO_5.out (fun _ hk => ⟨hk.2, hk.1⟩)⟩, ⟨by repeat (first | (with_reducible first | exact HB.out | apply below_alloc | apply pw_below_drewN | apply below_drew1) | exact HB.out)⟩⟩
                case rest =>
                  clear HC14
                  try clear c1
                  try clear p1
                  try clear q1
                  try clear hx1
                  try clear hf1
                  try clear c2
                  try clear c2b0
                  try clear c2b1
                  try clear p2
                  try clear q2
                  try clear hx2
                  try clear hf2
                  try clear c3
                  try clear c3b0
                  try clear c3b1
                  try clear p6
                  try clear c10
                  try clear c10b0
                  try clear c11
                  try clear c11b0
                  try clear c12
                  try clear c12b0
                  try clear p13
                  try clear q13
                  try clear hx13
                  try clear hf13
                  try clear p15
                  try clear q15
                  try clear hx15
                  try clear p16
                  try clear q16
                  try clear hx16
                  try clear c18
                  try clear c18b0
                  try clear c18b1
                  try clear c20
                  try clear c20b0
                  try clear c21
                  try clear c21b0
                  try clear c22
                  try clear p22
                  try clear q22
                  try clear hx22
                  try clear hf22
                  try clear c24
                  try clear c24b0
                  try clear c25
                  try clear c25b0
                  try clear p26
                  try clear q26
                  try clear hx26
                  try clear hf26
                  try clear hx13_0
                  try clear hx158_0
                  try clear hx160_0
                  try clear hx22_0
                  try clear hx26_0
                  try clear p13
                  try clear p158
                  try clear p160
                  try clear p2
                  try clear p22
                  try clear p26
                  try clear q13
                  try clear q158
                  try clear q160
                  try clear q22
                  try clear q26
                  obtain ⟨kq, x3_13, x5_13, HA, HJ13, HO_3, HO_4, HO_5, HB⟩ := hcut
                  have hl3_13 := (Kd.R_reads' HO_3.out).1
                  rw [hl3_13] at HO_3
                  (try simp only [hl3_13])
                  (try simp only [hl3_13] at HO_4)
                  (try simp only [hl3_13] at HO_5)
                  cases kq with
                  | zero => exact absurd HA.out (by simp [spec_l4Parents.j1])
                  | succ kj13 =>
                    have H := HA.out
                    clear HA
                    simp only [spec_l4Parents.j1] at H
                    by_cases c32 : x4_1.length < 17592186044416
                    · rw [if_pos c32] at H
                      have LMc32 := Aside0.mk c32
                      clear c32
                      obtain ⟨y162, hy162⟩ : ∃ y_ : List Int, y_ = (x4_1 ++ [x6_1]) := ⟨_, rfl⟩
                      replace H : (if 0 ≤ x6_1 then (if x6_1 < (l0.length : Int) then (if x5_13.length < 17592186044416 then (spec_l4Parents.l1 kj13 l0 x3_13 y162 (x5_13 ++ [(rd_T52 l0 x6_1).f5]) x6_1) else (none)) else (none)) else (none)) = some r := by first | (rw [hy162]; with_reducible exact H) | (have H2_ := (Option.bind_some _ _).symm.trans H; rw [hy162]; with_reducible exact H2_) | (have H2_ := (Option.bind_some _ _).symm.trans H; with_reducible exact H2_) | with_reducible exact H | (rw [hy162]; exact H) | exact H
                      have Ny162 := Aside0.mk hy162
                      clear hy162
                      by_cases c33 : 0 ≤ x6_1
                      · rw [if_pos c33] at H
                        have c33b0 : decide (0 ≤ x6_1) = true := decide_eq_true c33
                        clear c33
                        by_cases c34 : x6_1 < (l0.length : Int)
                        · rw [if_pos c34] at H
                          have c34b0 : decide (x6_1 < (l0.length : Int)) = true := decide_eq_true c34
                          clear c34
                          by_cases c35 : x5_13.length < 17592186044416
                          · rw [if_pos c35] at H
                            have LMc35 := Aside0.mk c35
                            clear c35
                            obtain ⟨y166, hy166⟩ : ∃ y_ : List Int, y_ = (x5_13 ++ [(rd_T52 l0 x6_1).f5]) := ⟨_, rfl⟩
                            replace H : (spec_l4Parents.l1 kj13 l0 x3_13 y162 y166 x6_1) = some r := by first | (rw [hy166]; with_reducible exact H) | (have H2_ := (Option.bind_some _ _).symm.trans H; rw [hy166]; with_reducible exact H2_) | (have H2_ := (Option.bind_some _ _).symm.trans H; with_reducible exact H2_) | with_reducible exact H | (rw [hy166]; exact H) | exact H
                            have Ny166 := Aside0.mk hy166
                            clear hy166
                            have H' := Aside0.mk H
                            clear H
                            go_wp2_with (first | ((with_reducible refine gate_builtin (b := .append) (xs := #[.tmp 41, .tmp 43]) rfl ?_); (try (refine gate_guard (by rfl) ?_; dsimp only)); at_builtin; refine Kd.R_append (Kd.int .i64) (w0 := w) w.heap.size rfl (.tmp 41) (.tmp 43) 28 3 (.int .i64 0) 8 rfl Try.underlying28 info3 rfl (by decide) (by omega) (.slice Ao17 x4_1.length co17) x4_1 x6_1 [.int .i64 x6_1] (fun k_ => some k_ ≠ (.slice (some ⟨go13, 0, none⟩) x3_13.length co13 : Value).ownBlock ∧ some k_ ≠ (u5 : Value).ownBlock) (fun _ => False) rfl rfl ?aP (fun _ hk => hk.elim) ?aF ?aO ?aB ?aS ?aL ?_; (case aP => exact rfl); (case aB => exact (by repeat (first | (with_reducible first | exact HB.out | apply below_alloc | apply pw_below_drewN | apply below_drew1) | exact HB.out))); (case aF => exact (fun k_ hk => ⟨Kd.fresh' (Kd.R_lt (by (with_reducible repeat (first | apply Kd.R_alloc | apply Kd.R_drewN | apply Kd.R_drew)); exact HO_3.out)) k_ hk, Kd.fresh' (Kd.R_lt (by (with_reducible repeat (first | apply Kd.R_alloc | apply Kd.R_drewN | apply Kd.R_drew)); exact HO_5.out)) k_ hk⟩)); (case aO => exact (by (with_reducible repeat (first | apply Kd.R_alloc | apply Kd.R_drewN | apply Kd.R_drew)); exact HO_4.out)); (case aS => exact (below_size (by repeat (first | (with_reducible first | exact HB.out | apply below_alloc | apply pw_below_drewN | apply below_drew1) | exact HB.out)))); (case aL => have := LMc32.out; omega); intro v163 w36 ho hb hg hat; rw [← Ny162.out] at ho; have n0_ := Aside0.mk (Kd.R_after (ok := (fun k_ => some k_ ≠ (u5 : Value).ownBlock)) (by (with_reducible repeat (first | apply Kd.R_alloc | apply Kd.R_drewN | apply Kd.R_drew)); exact Kd.R_mono HO_3.out (fun _ hk => ⟨hk.2, hk.1⟩)) hg hat); have n1_ := Aside0.mk (Kd.R_after (ok := (fun k_ => some k_ ≠ (.slice (some ⟨go13, 0, none⟩) x3_13.length co13 : Value).ownBlock)) (by (with_reducible repeat (first | apply Kd.R_alloc | apply Kd.R_drewN | apply Kd.R_drew)); exact HO_5.out) hg hat); have n2_ := Aside0.mk (hb); have n3_ := Aside0.mk (ho); clear HO_3; clear HO_5; clear HB; clear HO_4; have HO_3 := n0_; have HO_5 := n1_; have HB := n2_; have HO164 := n3_; clear n0_ n1_ n2_ n3_; clear ho hb hg hat; have p165 : 0 ≤ (x6_1 : Int) := of_decide_eq_true (by first | (with_reducible assumption) | assumption); have q165 : x6_1 < (l0.length : Int) := of_decide_eq_true (by first | (with_reducible assumption) | assumption); obtain ⟨ad165, A165_3, c165_3, e165, hx165_0, hx165_1, hx165_2, hx165_3, hx165_4, hx165_5, hl165_3, hi165_3⟩ := at_T52 HR0.out x6_1 p165 q165; cases e165; replace hx165_0 := (HB.out.cell (World.block_lt_of_cell? w _ hx165_0)).trans hx165_0; replace hx165_1 := (HB.out.cell (World.block_lt_of_cell? w _ hx165_1)).trans hx165_1; replace hx165_2 := (HB.out.cell (World.block_lt_of_cell? w _ hx165_2)).trans hx165_2; replace hx165_3 := (HB.out.cell (World.block_lt_of_cell? w _ hx165_3)).trans hx165_3; replace hx165_4 := (HB.out.cell (World.block_lt_of_cell? w _ hx165_4)).trans hx165_4; replace hx165_5 := (HB.out.cell (World.block_lt_of_cell? w _ hx165_5)).trans hx165_5; have HR165_3 := Aside0.mk hi165_3; have HC165_3 := Aside0.mk hl165_3; clear hi165_3 hl165_3; replace p165 := eq_true p165; replace q165 := eq_true q165) | ((with_reducible refine gate_builtin (b := .append) (xs := #[.tmp 45, .tmp 51]) rfl ?_); (try (refine gate_guard (by rfl) ?_; dsimp only)); at_builtin; refine Kd.R_append (Kd.int .i64) (w0 := w) w.heap.size rfl (.tmp 45) (.tmp 51) 28 3 (.int .i64 0) 8 rfl Try.underlying28 info3 rfl (by decide) (by omega) u5 x5_13 ((rd_T52 l0 x6_1).f5) [.int .i64 ((rd_T52 l0 x6_1).f5)] (fun k_ => some k_ ≠ (.slice (some ⟨go13, 0, none⟩) x3_13.length co13 : Value).ownBlock ∧ some k_ ≠ (v163 : Value).ownBlock) (fun _ => False) rfl rfl ?aP (fun _ hk => hk.elim) ?aF ?aO ?aB ?aS ?aL ?_; (case aP => exact rfl); (case aB => exact (by repeat (first | (with_reducible first | exact HB.out | apply below_alloc | apply pw_below_drewN | apply below_drew1) | exact HB.out))); (case aF => exact (fun k_ hk => ⟨Kd.fresh' (Kd.R_lt (by (with_reducible repeat (first | apply Kd.R_alloc | apply Kd.R_drewN | apply Kd.R_drew)); exact HO_3.out)) k_ hk, Kd.fresh' (Kd.R_lt (by (with_reducible repeat (first | apply Kd.R_alloc | apply Kd.R_drewN | apply Kd.R_drew)); exact HO164.out)) k_ hk⟩)); (case aO => exact (by (with_reducible repeat (first | apply Kd.R_alloc | apply Kd.R_drewN | apply Kd.R_drew)); exact HO_5.out)); (case aS => exact (below_size (by repeat (first | (with_reducible first | exact HB.out | apply below_alloc | apply pw_below_drewN | apply below_drew1) | exact HB.out)))); (case aL => have := LMc35.out; omega); intro v167 w37 ho hb hg hat; rw [← Ny166.out] at ho; have n0_ := Aside0.mk (Kd.R_after (ok := (fun k_ => some k_ ≠ (v163 : Value).ownBlock)) (by (with_reducible repeat (first | apply Kd.R_alloc | apply Kd.R_drewN | apply Kd.R_drew)); exact Kd.R_mono HO_3.out (fun _ hk => ⟨hk.2, hk.1⟩)) hg hat); have n1_ := Aside0.mk (Kd.R_after (ok := (fun k_ => some k_ ≠ (.slice (some ⟨go13, 0, none⟩) x3_13.length co13 : Value).ownBlock)) (by (with_reducible repeat (first | apply Kd.R_alloc | apply Kd.R_drewN | apply Kd.R_drew)); exact HO164.out) hg hat); have n2_ := Aside0.mk (hb); have n3_ := Aside0.mk (ho); clear HO_3; clear HO164; clear HB; clear HO_5; have HO_3 := n0_; have HO164 := n1_; have HB := n2_; have HO168 := n3_; clear n0_ n1_ n2_ n3_; clear ho hb hg hat))
                            go_loopg [4, 5] kj13 (fun kq v4 v5 w' => ∃ (x4_3 : List Int) (x5_3 : List Int), Aside0 (spec_l4Parents.l1 kq l0 x3_13 x4_3 x5_3 x6_1 = some r) ∧ Aside0 (kq ≤ kj13) ∧ Aside0 (Kd.R (Kd.int .i64) 3 w' w.heap.size (fun k_ => some k_ ≠ (v4 : Value).ownBlock ∧ some k_ ≠ (v5 : Value).ownBlock) (.slice (some ⟨go13, 0, none⟩) x3_13.length co13) x3_13) ∧ Aside0 (Kd.R (Kd.int .i64) 3 w' w.heap.size (fun k_ => some k_ ≠ ((.slice (some ⟨go13, 0, none⟩) x3_13.length co13) : Value).ownBlock ∧ some k_ ≠ (v5 : Value).ownBlock) v4 x4_3) ∧ Aside0 (Kd.R (Kd.int .i64) 3 w' w.heap.size (fun k_ => some k_ ≠ ((.slice (some ⟨go13, 0, none⟩) x3_13.length co13) : Value).ownBlock ∧ some k_ ≠ (v4 : Value).ownBlock) v5 x5_3) ∧ Aside0 (Below w.heap.size w w'))
                            case atStart => exact ⟨(y162), (y166), H', ⟨Nat.le_refl _⟩, ⟨by (try simp only [hl3_13]); (with_reducible repeat (first | apply Kd.R_alloc | apply Kd.R_drewN | apply Kd.R_drew)); exact HO_3.out⟩, ⟨by (try simp only [hl3_13]); (with_reducible repeat (first | apply Kd.R_alloc | apply Kd.R_drewN | apply Kd.R_drew)); exact HO164.out⟩, ⟨by (try simp only [hl3_13]); (with_reducible repeat (first | apply Kd.R_alloc | apply Kd.R_drewN | apply Kd.R_drew)); exact HO168.out⟩, ⟨by repeat (first | (with_reducible first | exact HB.out | apply below_alloc | apply pw_below_drewN | apply below_drew1) | exact HB.out)⟩⟩
                            case round =>
                              clear H'
                              try clear c1
                              try clear p1
                              try clear q1
                              try clear hx1
                              try clear hf1
                              try clear c2
                              try clear c2b0
                              try clear c2b1
                              try clear p2
                              try clear q2
                              try clear hx2
                              try clear hf2
                              try clear c3
                              try clear c3b0
                              try clear c3b1
                              try clear p6
                              try clear c10
                              try clear c10b0
                              try clear c11
                              try clear c11b0
                              try clear c12
                              try clear c12b0
                              try clear p13
                              try clear q13
                              try clear hx13
                              try clear hf13
                              try clear p15
                              try clear q15
                              try clear hx15
                              try clear c16
                              try clear p16
                              try clear q16
                              try clear hx16
                              try clear c18
                              try clear c18b0
                              try clear c18b1
                              try clear c20
                              try clear c20b0
                              try clear c21
                              try clear c21b0
                              try clear c22
                              try clear p22
                              try clear q22
                              try clear hx22
                              try clear hf22
                              try clear c24
                              try clear c24b0
                              try clear c25
                              try clear c25b0
                              try clear p26
                              try clear q26
                              try clear hx26
                              try clear hf26
                              try clear c32
                              try clear c33
                              try clear c33b0
                              try clear c34
                              try clear c34b0
                              try clear c35
                              try clear hx13_0
                              try clear hx158_0
                              try clear hx160_0
                              try clear hx165_0
                              try clear hx165_1
                              try clear hx165_2
                              try clear hx165_3
                              try clear hx165_4
                              try clear hx165_5
                              try clear hx22_0
                              try clear hx26_0
                              try clear p1
                              try clear p13
                              try clear p15
                              try clear p158
                              try clear p16
                              try clear p160
                              try clear p165
                              try clear p2
                              try clear p22
                              try clear p26
                              try clear p6
                              try clear q1
                              try clear q13
                              try clear q15
                              try clear q158
                              try clear q16
                              try clear q160
                              try clear q165
                              try clear q2
                              try clear q22
                              try clear q26
                              obtain ⟨x4_3, x5_3, HA, HK3, HO_3, HO_4, HO_5, HB⟩ := hrel
                              cases gk with
                              | zero => exact absurd HA.out (by simp [spec_l4Parents.l1])
                              | succ k3 =>
                                have H := HA.out
                                clear HA
                                simp only [spec_l4Parents.l1] at H
                                by_cases c38 : (x5_3.length : Int) > 0
                                · rw [if_pos c38] at H
                                  have c38b0 : decide (0 < (x5_3.length : Int)) = true := decide_eq_true c38
                                  have c38b1 : decide (0 < x5_3.length) = true := decide_eq_true (by omega)
                                  clear c38
                                  obtain ⟨ji39, hji39⟩ : ∃ j_ : Int, (wrap64 ((x5_3.length : Int) - 1)) = j_ := ⟨_, rfl⟩
                                  replace H : (if 0 ≤ (ji39) then (if (ji39) < (x5_3.length : Int) then (if (rd x5_3 (ji39)) = 0 then (if 0 ≤ (wrap64 ((x4_3.length : Int) - 1)) then (if (wrap64 ((x4_3.length : Int) - 1)) ≤ (x4_3.length : Int) then (if (ji39) ≤ (x5_3.length : Int) then (spec_l4Parents.l1 k3 l0 x3_13 (x4_3.take ((wrap64 ((x4_3.length : Int) - 1)) : Int).toNat) (x5_3.take ((ji39) : Int).toNat) x6_1) else (none)) else (none)) else (none)) else (spec_l4Parents.l0 k3 l0 x3_13 x4_3 x5_3 (wrap64 (x6_1 + 1)))) else (none)) else (none)) = some r := by first | (rw [hji39] at H; exact H) | (simp only [hji39] at H ⊢; exact H)
                                  have hji39w : (IntKind.i64.wrap ((x5_3.length : Int) - 1)) = ji39 := (i64_w _).trans hji39
                                  by_cases c40 : 0 ≤ (ji39)
                                  · rw [if_pos c40] at H
                                    have c40b0 : decide (0 ≤ (ji39)) = true := decide_eq_true c40
                                    clear c40
                                    by_cases c41 : (ji39) < (x5_3.length : Int)
                                    · rw [if_pos c41] at H
                                      have c41b0 : decide ((ji39) < (x5_3.length : Int)) = true := decide_eq_true c41
                                      clear c41
                                      by_cases c42 : (rd x5_3 (ji39)) = 0
                                      · rw [if_pos c42] at H
                                        have c42b0 : ((rd x5_3 (ji39)) == 0) = true := beq_iff_eq.mpr c42
                                        have c42b1 : ((rd x5_3 (ji39)) != 0) = false := bne_eq_false_iff_eq.mpr c42
                                        clear c42
                                        obtain ⟨ji43, hji43⟩ : ∃ j_ : Int, (wrap64 ((x4_3.length : Int) - 1)) = j_ := ⟨_, rfl⟩
                                        replace H : (if 0 ≤ (ji43) then (if (ji43) ≤ (x4_3.length : Int) then (if (ji39) ≤ (x5_3.length : Int) then (spec_l4Parents.l1 k3 l0 x3_13 (x4_3.take ((ji43) : Int).toNat) (x5_3.take ((ji39) : Int).toNat) x6_1) else (none)) else (none)) else (none)) = some r := by first | (rw [hji43] at H; exact H) | (simp only [hji43] at H ⊢; exact H)
                                        have hji43w : (IntKind.i64.wrap ((x4_3.length : Int) - 1)) = ji43 := (i64_w _).trans hji43
                                        by_cases c44 : 0 ≤ (ji43)
                                        · rw [if_pos c44] at H
                                          have c44b0 := eq_true c44
                                          have c44b1 : decide (0 ≤ (ji43)) = true := decide_eq_true c44
                                          clear c44
                                          by_cases c45 : (ji43) ≤ (x4_3.length : Int)
                                          · rw [if_pos c45] at H
                                            have c45b0 := eq_true c45
                                            have c45b1 : decide ((ji43) ≤ (x4_3.length : Int)) = true := decide_eq_true c45
                                            clear c45
                                            obtain ⟨y170, hy170⟩ : ∃ y_ : List Int, y_ = (x4_3.take ((ji43) : Int).toNat) := ⟨_, rfl⟩
                                            replace H : (if (ji39) ≤ (x5_3.length : Int) then (spec_l4Parents.l1 k3 l0 x3_13 y170 (x5_3.take ((ji39) : Int).toNat) x6_1) else (none)) = some r := by first | (rw [hy170]; with_reducible exact H) | (have H2_ := (Option.bind_some _ _).symm.trans H; rw [hy170]; with_reducible exact H2_) | (have H2_ := (Option.bind_some _ _).symm.trans H; with_reducible exact H2_) | with_reducible exact H | (rw [hy170]; exact H) | exact H
                                            have Ny170 := Aside0.mk hy170
                                            clear hy170
                                            by_cases c46 : (ji39) ≤ (x5_3.length : Int)
                                            · rw [if_pos c46] at H
                                              have c46b0 := eq_true c46
                                              have c46b1 : decide ((ji39) ≤ (x5_3.length : Int)) = true := decide_eq_true c46
                                              clear c46
                                              obtain ⟨y173, hy173⟩ : ∃ y_ : List Int, y_ = (x5_3.take ((ji39) : Int).toNat) := ⟨_, rfl⟩
                                              replace H : (spec_l4Parents.l1 k3 l0 x3_13 y170 y173 x6_1) = some r := by first | (rw [hy173]; with_reducible exact H) | (have H2_ := (Option.bind_some _ _).symm.trans H; rw [hy173]; with_reducible exact H2_) | (have H2_ := (Option.bind_some _ _).symm.trans H; with_reducible exact H2_) | with_reducible exact H | (rw [hy173]; exact H) | exact H
                                              have Ny173 := Aside0.mk hy173
                                              clear hy173
                                              have H' := Aside0.mk H
                                              clear H
                                              obtain ⟨Ao47, co47, eo47⟩ := Kd.R_slice HO_5.out
                                              subst eo47
                                              have p169 : 0 ≤ ((ji39) : Int) := of_decide_eq_true (by first | (with_reducible assumption) | assumption)
                                              have q169 : (ji39) < (x5_3.length : Int) := of_decide_eq_true (by first | (with_reducible assumption) | assumption)
                                              obtain ⟨ad169, e169, hx169_0⟩ := Kd.at_int (Kd.R_reads' HO_5.out).2.2 (ji39) p169 q169
                                              cases e169
                                              replace p169 := eq_true p169
                                              replace q169 := eq_true q169
                                              obtain ⟨Ao48, co48, eo48⟩ := Kd.R_slice HO_4.out
                                              subst eo48
                                              have q49 : ((ji43) : Int) ≤ ((x4_3.length : Int) : Int) := of_decide_eq_true (by first | (with_reducible assumption) | assumption)
                                              obtain ⟨i049, hi049, _, hsz49, _⟩ := info_parts info3
                                              have hcut49 := cut_to (P := Try.prog) 28 3 .i64 Try.underlying28 hi049 Ao48 x4_3.length co48 (ji43) (of_decide_eq_true (by first | (with_reducible assumption) | assumption)) q49 (Kd.R_reads' HO_4.out).2.1
                                              have hr49 := Kd.R_take (m := ((ji43) : Int).toNat) HO_4.out (by omega)
                                              have hy49 : y170.length = ((ji43) : Int).toNat := (by rw [Ny170.out, List.length_take]; omega)
                                              rw [← Ny170.out] at hr49
                                              rw [← hy49] at hr49 hcut49
                                              clear hy49 hi049 hsz49 HO_4
                                              have HO172 := Aside0.mk hr49
                                              clear hr49
                                              replace q49 := eq_true q49
                                              have q50 : ((ji39) : Int) ≤ ((x5_3.length : Int) : Int) := of_decide_eq_true (by first | (with_reducible assumption) | assumption)
                                              obtain ⟨i050, hi050, _, hsz50, _⟩ := info_parts info3
                                              have hcut50 := cut_to (P := Try.prog) 28 3 .i64 Try.underlying28 hi050 (some ad169) x5_3.length co47 (ji39) (of_decide_eq_true (by first | (with_reducible assumption) | assumption)) q50 (Kd.R_reads' HO_5.out).2.1
                                              have hr50 := Kd.R_take (m := ((ji39) : Int).toNat) HO_5.out (by omega)
                                              have hy50 : y173.length = ((ji39) : Int).toNat := (by rw [Ny173.out, List.length_take]; omega)
                                              rw [← Ny173.out] at hr50
                                              rw [← hy50] at hr50 hcut50
                                              clear hy50 hi050 hsz50 HO_5
                                              have HO175 := Aside0.mk hr50
                                              clear hr50
                                              replace q50 := eq_true q50
                                              go_wp2
                                              go_roundg k3
                                              case measure => have := HK1.out; have := HJ13.out; have := HK3.out; omega
                                              case rel => exact ⟨(y170), (y173), H', ⟨by have := HK1.out; have := HJ13.out; have := HK3.out; omega⟩, ⟨by (try simp only [hl3_13]); (with_reducible repeat (first | apply Kd.R_alloc | apply Kd.R_drewN | apply Kd.R_drew)); exact Kd.R_mono HO_3.out (fun _ hk => ⟨by rw [ownBlock_any Ao48 y170.length x4_3.length co48 co48]; exact hk.1, hk.2⟩)⟩, ⟨by (try simp only [hl3_13]); (with_reducible repeat (first | apply Kd.R_alloc | apply Kd.R_drewN | apply Kd.R_drew)); exact HO172.out⟩, ⟨by (try simp only [hl3_13]); (with_reducible repeat (first | apply Kd.R_alloc | apply Kd.R_drewN | apply Kd.R_drew)); exact Kd.R_mono HO175.out (fun _ hk => ⟨hk.1, by rw [ownBlock_any Ao48 y170.length x4_3.length co48 co48]; exact hk.2⟩)⟩, ⟨by repeat (first | (with_reducible first | exact HB.out | apply below_alloc | apply pw_below_drewN | apply below_drew1) | exact HB.out)⟩⟩
                                            · rw [if_neg c46] at H
                                              exact absurd H (by simp)
                                          · rw [if_neg c45] at H
                                            exact absurd H (by simp)
                                        · rw [if_neg c44] at H
                                          exact absurd H (by simp)
                                      · rw [if_neg c42] at H
                                        have c42b0 : ((rd x5_3 (ji39)) == 0) = false := beq_eq_false_iff_ne.mpr c42
                                        have c42b1 : ((rd x5_3 (ji39)) != 0) = true := bne_iff_ne.mpr c42
                                        have H' := Aside0.mk H
                                        clear H
                                        obtain ⟨Ao51, co51, eo51⟩ := Kd.R_slice HO_5.out
                                        subst eo51
                                        have p169 : 0 ≤ ((ji39) : Int) := of_decide_eq_true (by first | (with_reducible assumption) | assumption)
                                        have q169 : (ji39) < (x5_3.length : Int) := of_decide_eq_true (by first | (with_reducible assumption) | assumption)
                                        obtain ⟨ad169, e169, hx169_0⟩ := Kd.at_int (Kd.R_reads' HO_5.out).2.2 (ji39) p169 q169
                                        cases e169
                                        replace p169 := eq_true p169
                                        replace q169 := eq_true q169
                                        go_wp2
                                        (try simp only [← hl3_13])
                                        go_roundg k3
                                        case measure => have := HK1.out; have := HJ13.out; have := HK3.out; omega
                                        case rel => exact ⟨(x3_13), (x4_3), (x5_3), (wrap64 (x6_1 + 1)), (by first | rfl | (simp; done) | (simp [*]; done)), H', ⟨by have := HK1.out; have := HJ13.out; have := HK3.out; omega⟩, ⟨by (try simp only [hl3_13]); (with_reducible repeat (first | apply Kd.R_alloc | apply Kd.R_drewN | apply Kd.R_drew)); exact HO_3.out⟩, ⟨by (try simp only [hl3_13]); (with_reducible repeat (first | apply Kd.R_alloc | apply Kd.R_drewN | apply Kd.R_drew)); exact HO_4.out⟩, ⟨by (try simp only [hl3_13]); (with_reducible repeat (first | apply Kd.R_alloc | apply Kd.R_drewN | apply Kd.R_drew)); exact HO_5.out⟩, ⟨by repeat (first | (with_reducible first | exact HB.out | apply below_alloc | apply pw_below_drewN | apply below_drew1) | exact HB.out)⟩⟩
                                    · rw [if_neg c41] at H
                                      exact absurd H (by simp)
                                  · rw [if_neg c40] at H
                                    exact absurd H (by simp)
                                · rw [if_neg c38] at H
                                  have c38b0 : decide (0 < (x5_3.length : Int)) = false := decide_eq_false c38
                                  have c38b1 : decide (0 < x5_3.length) = false := decide_eq_false (by omega)
                                  clear c38
                                  have H' := Aside0.mk H
                                  clear H
                                  obtain ⟨Ao52, co52, eo52⟩ := Kd.R_slice HO_5.out
                                  subst eo52
                                  go_wp2
                                  (try simp only [← hl3_13])
                                  go_roundg k3
                                  case measure => have := HK1.out; have := HJ13.out; have := HK3.out; omega
                                  case rel => exact ⟨(x3_13), (x4_3), (x5_3), (wrap64 (x6_1 + 1)), (by first | rfl | (simp; done) | (simp [*]; done)), H', ⟨by have := HK1.out; have := HJ13.out; have := HK3.out; omega⟩, ⟨by (try simp only [hl3_13]); (with_reducible repeat (first | apply Kd.R_alloc | apply Kd.R_drewN | apply Kd.R_drew)); exact HO_3.out⟩, ⟨by (try simp only [hl3_13]); (with_reducible repeat (first | apply Kd.R_alloc | apply Kd.R_drewN | apply Kd.R_drew)); exact HO_4.out⟩, ⟨by (try simp only [hl3_13]); (with_reducible repeat (first | apply Kd.R_alloc | apply Kd.R_drewN | apply Kd.R_drew)); exact HO_5.out⟩, ⟨by repeat (first | (with_reducible first | exact HB.out | apply below_alloc | apply pw_below_drewN | apply below_drew1) | exact HB.out)⟩⟩
                          · rw [if_neg c35] at H
                            exact absurd H (by simp)
                        · rw [if_neg c34] at H
                          exact absurd H (by simp)
                      · rw [if_neg c33] at H
                        exact absurd H (by simp)
                    · rw [if_neg c32] at H
                      exact absurd H (by simp)
              · rw [if_neg c12] at H
                exact absurd H (by simp)
            · rw [if_neg c11] at H
              exact absurd H (by simp)
          · rw [if_neg c10] at H
            have c10b0 : decide (x6_1 < (l0.length : Int)) = false := decide_eq_false c10
            clear c10
            obtain rfl := Option.some.inj H
            go_wp2
            go_ret
            exact ⟨_, by first | rfl | (simp [errW_none, errW_some] <;> rfl) | (simp [*, errW_none, errW_some] <;> rfl), by (with_reducible repeat (first | apply Kd.R_alloc | apply Kd.R_drewN | apply Kd.R_drew)); exact Kd.R_mono HO_3.out (fun _ hk => trivial), by repeat (first | (with_reducible first | exact HB.out | apply below_alloc | apply pw_below_drewN | apply below_drew1) | exact HB.out)⟩
    · rw [if_neg c3] at H
      exact absurd H (by simp)
  · rw [if_neg c2] at H
    exact absurd H (by simp)
end Go.Proofs.Ytcjaakbmabhmdaa.PFnExactFire
