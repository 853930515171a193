/- Part 16 of the proof: TokValue, TokAttr, TokHas. -/
import Derived.Test.YtnjnoabldjodcaaDoorA15
import Derived.Deep.RegionHeld3
set_option linter.unusedVariables false
set_option linter.unusedSimpArgs false
namespace Go.Proofs.YtnjnoabldjodcaaDoor.Tok
open Go.RowKit Go.Proofs.YtnjnoabldjodcaaDoorW.PrintWords Go.Proofs.YtnjnoabldjodcaaDoorW.PrintLast Go.Proofs.YtnjnoabldjodcaaDoorW.PrintMore Go.Proofs.YtnjnoabldjodcaaDoor.PFnExactTokens
theorem is_gt_calls (x : Int) (w : World) : Calls Tryd.prog 74 #[.int .u8 x] w fun e w' => e = .returned (.bool (x == 62)) ∧ w = w' := by
  go_enter Tryd.func74, Tryd.ntmps74
  go_wp2
  go_ret
  exact ⟨rfl, rfl⟩
theorem is_q_calls (x q : Int) (qb : Nat) (w : World) (hq : w.cell? ⟨qb, 0, none⟩ = some (.int .u8 q)) : Calls Tryd.prog 87 #[.int .u8 x, .pointer (some ⟨qb, 0, none⟩)] w fun e w' => e = .returned (.bool (x == q)) ∧ w = w' := by
  go_enter Tryd.func87, Tryd.ntmps87
  go_wp2
  go_ret
  exact ⟨rfl, rfl⟩
theorem Refs.turned {S : Nat → Prop} {w w' : World} (h : Refs w) (ht : Turned S w w') (hS : ¬ S 0) : Refs w' := by
  have hp := h.pos
  obtain ⟨t, fr, h⟩ := h
  exact ⟨t, fr, (ht.block 0 hp hS).trans h⟩
set_option maxHeartbeats 4000000 in
set_option maxRecDepth 100000 in
theorem upTo_calls (s : ByteArray) (hs : s.size < 2 ^ 40) (b i : Nat) (hi : i ≤ s.size) (x2 x3 x4 : Value) (w : World) (hb : Sc w b s i x2 x3 x4) :
    Calls Tryd.prog 47 #[.pointer (some ⟨b, 0, none⟩)] w fun e w' => e = .returned (.string (S (part (B s) i (fd (B s) 62 i)))) ∧ Sc w' b s (behind (B s) (fd (B s) 62 i)) x2 x3 x4 ∧ Turned (fun k => k = b) w w' := by
  have HU := Aside0.mk (until_gt s hs b i hi x2 x3 x4 w hb (fun x => x == 62) (fun x W _ => is_gt_calls x W))
  have HE := Aside0.mk (show i + sp (fun x => !(x == 62)) ((B s).drop i) = fd (B s) 62 i from rfl)
  obtain ⟨J, hJ⟩ : ∃ J, J = fd (B s) 62 i := ⟨_, rfl⟩
  have hJs : J ≤ s.size := by rw [hJ, ← B_length]; exact sp_to (by rw [B_length]; exact hi)
  rw [← hJ] at HE ⊢
  rw [HE.out] at HU
  obtain ⟨R, hR⟩ : ∃ R, R = S (part (B s) i J) := ⟨_, rfl⟩
  rw [← hR] at HU ⊢
  have HS := Aside0.mk hs
  have HJS := Aside0.mk hJs
  by_cases hlt : J < s.size
  · have hd : decide (J < s.size) = true := decide_eq_true hlt
    have hjs : (J : Int) < 1099511627776 := by omega
    have HBE := Aside0.mk (show behind (B s) J = J + 1 by unfold behind; rw [if_pos (by rw [B_length]; exact hlt)])
    clear hJ hb hs hi hJs hR HE hlt
    go_enter Tryd.func47, Tryd.ntmps47
    go_wp2_with ((go_at_call 66; refine HU.out.mono ?_; rintro e w1 ⟨rfl, hc, ht⟩; have c0 := hc.c0; have c1 := hc.c1; have f1 := hc.f1; have HC := Aside0.mk hc; have HT := Aside0.mk ht; clear hc ht))
    go_quiet (fail)
    go_wp2
    go_ret
    exact ⟨rfl, by rw [HBE.out]; exact HC.out.at_ (J + 1), (HT.out.drewN _).at_ _ _⟩
  · have hd : decide (J < s.size) = false := decide_eq_false hlt
    have HBE := Aside0.mk (show behind (B s) J = J by unfold behind; rw [if_neg (by rw [B_length]; exact hlt)])
    clear hJ hb hs hi hJs hR HE hlt
    go_enter Tryd.func47, Tryd.ntmps47
    go_wp2_with ((go_at_call 66; refine HU.out.mono ?_; rintro e w1 ⟨rfl, hc, ht⟩; have c0 := hc.c0; have c1 := hc.c1; have f1 := hc.f1; have HC := Aside0.mk hc; have HT := Aside0.mk ht; clear hc ht))
    go_quiet (fail)
    go_wp2
    go_ret
    exact ⟨rfl, by rw [HBE.out]; exact HC.out.drewN _, HT.out.drewN _⟩
set_option maxHeartbeats 4000000 in
set_option maxRecDepth 100000 in
theorem value_end (s : ByteArray) (b : Nat) (x2 x3 x4 : Value) (w : World) (hb : Sc w b s s.size x2 x3 x4) :
    Calls Tryd.prog 82 #[.pointer (some ⟨b, 0, none⟩)] w fun e w' => e = .returned (.tuple #[.string ⟨#[]⟩, .bool false]) ∧ Sc w' b s s.size x2 x3 x4 ∧ Turned (fun k => k = b) w w' := by
  have c0 := hb.c0
  have c1 := hb.c1
  have HB := Aside0.mk hb
  clear hb
  go_enter Tryd.func82, Tryd.ntmps82
  go_wp2
  go_quiet (fail)
  go_wp2
  exact bodyPost_ret (v := .tuple #[.string ⟨#[]⟩, .bool false]) (by simp [results, Tryd.results82, go_sem]) rfl ⟨rfl, HB.out.drewN _, (Turned.refl _ _).drewN _⟩
set_option maxHeartbeats 4000000 in
set_option maxRecDepth 100000 in
theorem value_bare (s : ByteArray) (hs : s.size < 2 ^ 40) (b i : Nat) (hi : i < s.size) (x2 x3 x4 : Value) (w : World) (hb : Sc w b s i x2 x3 x4) (hR : Refs w) (h0 : b ≠ 0) (h34 : (bt s (i : Int) == 34) = false) (h39 : (bt s (i : Int) == 39) = false) :
    Calls Tryd.prog 82 #[.pointer (some ⟨b, 0, none⟩)] w fun e w' => e = .returned (.tuple #[.string (S (refs true (part (B s) i (vl (B s) i)))), .bool true]) ∧ Sc w' b s (vl (B s) i) x2 x3 x4 ∧ Turned (fun k => k = b) w w' := by
  have HV := Aside0.mk (show i + sp (fun x => !(white x || x == 62)) ((B s).drop i) = vl (B s) i by
    unfold vl
    congr 2
    funext x
    cases white x <;> simp [bne])
  have HPL := Aside0.mk (show (part (B s) i (vl (B s) i)).length < 2 ^ 40 by have := part_le (B s) i (vl (B s) i); rw [B_length] at this; omega)
  have c0 := hb.c0
  have c1 := hb.c1
  have hd : ((i : Int) == (s.size : Int)) = false := by rw [beq_eq_false_iff_ne]; omega
  have hd2 : (i == s.size) = false := by rw [beq_eq_false_iff_ne]; omega
  have hii : (i : Int) < (s.size : Int) := by omega
  have hjs : (i : Int) < 1099511627776 := by omega
  have hx := bt_at s (i : Int)
  rw [Int.toNat_natCast] at hx
  have HB := Aside0.mk hb
  have HR := Aside0.mk hR
  have HS := Aside0.mk hs
  have HI := Aside0.mk hi
  have H0 := Aside0.mk h0
  clear hb hR hs hi h0
  go_enter Tryd.func82, Tryd.ntmps82
  go_wp2
  go_quiet (fail)
  go_wp2
  obtain ⟨W1, hW1⟩ : ∃ W1, W1 = w.drewN nq := ⟨_, rfl⟩
  rw [← hW1]
  have d0 : W1.cell? ⟨b, 0, none⟩ = some (.string s) := by rw [hW1]; exact c0
  have d1 : W1.cell? ⟨b, 1, none⟩ = some (.int .i64 i) := by rw [hW1]; exact c1
  have HC1 := Aside0.mk (show Sc W1 b s i x2 x3 x4 by rw [hW1]; exact HB.out.drewN _)
  have HT1 := Aside0.mk (show Turned (fun k => k = b) w W1 by rw [hW1]; exact (Turned.refl _ _).drewN _)
  clear hW1 c0 c1
  have e0 := fun o => (Below.heap_alloc W1 o b (World.block_lt_of_cell? W1 ⟨b, 0, none⟩ d0))
  have d2 : ∀ o, (W1.alloc o).cell? ⟨b, 0, none⟩ = some (.string s) := fun o => by rw [← d0]; exact World.cell?_of_block (w := W1) (e0 o)
  have d3 : ∀ o, (W1.alloc o).cell? ⟨b, 1, none⟩ = some (.int .i64 i) := fun o => by rw [← d1]; exact World.cell?_of_block (w := W1) (e0 o)
  clear e0
  go_region
  clear d0 d1 d2 d3
  obtain ⟨W2, hW2⟩ : ∃ W2, W2 = (W1.alloc (.cells #[.int .u8 (bt s (i : Int))] 5)).drew := ⟨_, rfl⟩
  rw [← hW2]
  have HT2 := Aside0.mk (show Turned (fun k => k = b) w W2 by rw [hW2]; exact (HT1.out.trans (Turned.of_below (below_one _ _))).drew)
  have HC2 := Aside0.mk (show Sc W2 b s i x2 x3 x4 by rw [hW2]; exact (Below.heap_alloc W1 _ b HC1.out.lt).trans HC1.out)
  have hq : W2.cell? ⟨W1.heap.size, 0, none⟩ = some (.int .u8 (bt s (i : Int))) := by rw [hW2]; exact blk_cell (heap_alloc_new W1 (.cells #[.int .u8 (bt s (i : Int))] 5)) 0
  have HQL := Aside0.mk (show W1.heap.size < W2.heap.size by rw [hW2]; simp)
  have HQN := Aside0.mk (show W1.heap.size ≠ b from fun e => by have := HC1.out.lt; omega)
  have HR2 := Aside0.mk (HR.out.turned HT2.out (fun e => H0.out e.symm))
  generalize W1.heap.size = qb at hq HQL HQN ⊢
  clear hW2 HC1 HT1 HB
  have HU := Aside0.mk (until_val s HS.out b i (Nat.le_of_lt HI.out) x2 x3 x4 W2 HC2.out (fun x => white x || x == 62) (fun x W _ => ends_value_calls x W))
  rw [HV.out] at HU
  go_wp2_with (first | (go_at_call 66; refine HU.out.mono ?_; rintro e w3 ⟨rfl, hc, ht⟩; have HC3 := Aside0.mk hc; have HT3 := Aside0.mk (HT2.out.trans ht); have HR3 := Aside0.mk (HR2.out.turned ht (fun e => H0.out e.symm)); clear hc ht) | (go_at_call 40; refine (resolved_calls _ (by rw [S_size]; exact HPL.out) true _ HR3.out).mono ?_; rintro e w4 ⟨rfl, hb4⟩; rw [B_S (part_byte _ _ _)]; have HC4 := Aside0.mk (HC3.out.turned (Turned.of_below (S := fun _ => False) hb4) (fun h => h)); have HT4 := Aside0.mk (HT3.out.trans (Turned.of_below hb4)); clear hb4))
  exact bodyPost_ret (v := .tuple #[.string (S (refs true (part (B s) i (vl (B s) i)))), .bool true]) (by simp [results, Tryd.results82, go_sem]) rfl ⟨rfl, HC4.out, HT4.out⟩
set_option maxHeartbeats 8000000 in
set_option maxRecDepth 100000 in
theorem value_quoted (s : ByteArray) (hs : s.size < 2 ^ 40) (b i : Nat) (hi : i < s.size) (x2 x3 x4 : Value) (w : World) (hb : Sc w b s i x2 x3 x4) (hR : Refs w) (h0 : b ≠ 0) (hqt : (bt s (i : Int) == 34) = true ∨ (bt s (i : Int) == 34) = false ∧ (bt s (i : Int) == 39) = true) :
    (s.size ≤ fd (B s) (bt s (i : Int)) (i + 1) → Calls Tryd.prog 82 #[.pointer (some ⟨b, 0, none⟩)] w fun e w' => e = .returned (.tuple #[.string ⟨#[]⟩, .bool false]) ∧ Sc w' b s s.size x2 x3 x4 ∧ Turned (fun k => k = b) w w') ∧
    (fd (B s) (bt s (i : Int)) (i + 1) < s.size → Calls Tryd.prog 82 #[.pointer (some ⟨b, 0, none⟩)] w fun e w' => e = .returned (.tuple #[.string (S (refs true (part (B s) (i + 1) (fd (B s) (bt s (i : Int)) (i + 1))))), .bool true]) ∧ Sc w' b s (fd (B s) (bt s (i : Int)) (i + 1) + 1) x2 x3 x4 ∧ Turned (fun k => k = b) w w') := by
  obtain ⟨J, hJ⟩ : ∃ J, J = fd (B s) (bt s (i : Int)) (i + 1) := ⟨_, rfl⟩
  have HV := Aside0.mk (show i + 1 + sp (fun x => !(x == bt s (i : Int))) ((B s).drop (i + 1)) = J from hJ.symm)
  have HPL := Aside0.mk (show (part (B s) (i + 1) J).length < 2 ^ 40 by have := part_le (B s) (i + 1) J; rw [B_length] at this; omega)
  have hJ1 : J ≤ s.size := by rw [hJ, ← B_length]; exact sp_to (by rw [B_length]; exact hi)
  rw [← hJ]
  have HJ1 := Aside0.mk hJ1
  clear hJ hJ1
  refine ⟨fun hfin => ?_, fun hfin => ?_⟩
  · have HF := Aside0.mk hfin
    have HQT := Aside0.mk hqt
    clear hqt
    have c0 := hb.c0
    have c1 := hb.c1
    have hd : ((i : Int) == (s.size : Int)) = false := by rw [beq_eq_false_iff_ne]; omega
    have hd2 : (i == s.size) = false := by rw [beq_eq_false_iff_ne]; omega
    have hii : (i : Int) < (s.size : Int) := by omega
    have hjs : (i : Int) < 1099511627776 := by omega
    have hx := bt_at s (i : Int)
    rw [Int.toNat_natCast] at hx
    have HB := Aside0.mk hb
    have HR := Aside0.mk hR
    have HS := Aside0.mk hs
    have HI := Aside0.mk hi
    have H0 := Aside0.mk h0
    clear hb hR hs hi h0 hfin
    go_enter Tryd.func82, Tryd.ntmps82
    go_wp2
    go_quiet (fail)
    go_wp2
    obtain ⟨W1, hW1⟩ : ∃ W1, W1 = w.drewN nq := ⟨_, rfl⟩
    rw [← hW1]
    have d0 : W1.cell? ⟨b, 0, none⟩ = some (.string s) := by rw [hW1]; exact c0
    have d1 : W1.cell? ⟨b, 1, none⟩ = some (.int .i64 i) := by rw [hW1]; exact c1
    have HC1 := Aside0.mk (show Sc W1 b s i x2 x3 x4 by rw [hW1]; exact HB.out.drewN _)
    have HT1 := Aside0.mk (show Turned (fun k => k = b) w W1 by rw [hW1]; exact (Turned.refl _ _).drewN _)
    clear hW1 c0 c1
    have e0 := fun o => (Below.heap_alloc W1 o b (World.block_lt_of_cell? W1 ⟨b, 0, none⟩ d0))
    have d2 : ∀ o, (W1.alloc o).cell? ⟨b, 0, none⟩ = some (.string s) := fun o => by rw [← d0]; exact World.cell?_of_block (w := W1) (e0 o)
    have d3 : ∀ o, (W1.alloc o).cell? ⟨b, 1, none⟩ = some (.int .i64 i) := fun o => by rw [← d1]; exact World.cell?_of_block (w := W1) (e0 o)
    clear e0
    go_region
    clear d0 d1 d2 d3
    obtain ⟨W2, hW2⟩ : ∃ W2, W2 = (W1.alloc (.cells #[.int .u8 (bt s (i : Int))] 5)).drew := ⟨_, rfl⟩
    rw [← hW2]
    have HT2 := Aside0.mk (show Turned (fun k => k = b) w W2 by rw [hW2]; exact (HT1.out.trans (Turned.of_below (below_one _ _))).drew)
    have HC2 := Aside0.mk (show Sc W2 b s i x2 x3 x4 by rw [hW2]; exact (Below.heap_alloc W1 _ b HC1.out.lt).trans HC1.out)
    have hq : W2.cell? ⟨W1.heap.size, 0, none⟩ = some (.int .u8 (bt s (i : Int))) := by rw [hW2]; exact blk_cell (heap_alloc_new W1 (.cells #[.int .u8 (bt s (i : Int))] 5)) 0
    have HQL := Aside0.mk (show W1.heap.size < W2.heap.size by rw [hW2]; simp)
    have HQN := Aside0.mk (show W1.heap.size ≠ b from fun e => by have := HC1.out.lt; omega)
    have HR2 := Aside0.mk (HR.out.turned HT2.out (fun e => H0.out e.symm))
    generalize W1.heap.size = qb at hq HQL HQN ⊢
    clear hW2 HC1 HT1 HB
    have f1 := HC2.out.f1
    have c1 := HC2.out.c1
    rcases HQT.out with h34 | ⟨h34, h39⟩
    all_goals
      go_upto_region 6 with (fail)
      obtain ⟨W3, hW3⟩ : ∃ W3, W3 = W2.setCell ⟨b, 1, none⟩ (.int .i64 ((i : Int) + 1)) := ⟨_, rfl⟩
      rw [← hW3]
      have HC3 := Aside0.mk (show Sc W3 b s (i + 1) x2 x3 x4 by rw [hW3]; exact HC2.out.at_ (i + 1))
      have HT3 := Aside0.mk (show Turned (fun k => k = b) w W3 by rw [hW3]; exact HT2.out.at_ _ _)
      have HR3 := Aside0.mk (HR.out.turned HT3.out (fun e => H0.out e.symm))
      have HQ3 := Aside0.mk (show W3.cell? ⟨qb, 0, none⟩ = some (.int .u8 (bt s (i : Int))) by rw [hW3, cell_far (by exact HQN.out)]; exact hq)
      have HQL3 := Aside0.mk (show qb < W3.heap.size by rw [hW3]; simpa [World.setCell] using HQL.out)
      have HU := Aside0.mk (until_q s HS.out b (i + 1) HI.out x2 x3 x4 W3 HC3.out qb (fun x => x == bt s (i : Int)) (fun x W hW => is_q_calls x _ qb W (by rw [World.cell?_of_block (w := W3) (hW.block qb HQL3.out HQN.out)]; exact HQ3.out)))
      rw [HV.out] at HU
      obtain ⟨R, hR⟩ : ∃ R, R = S (part (B s) (i + 1) J) := ⟨_, rfl⟩
      rw [← hR] at HU
      have HRE := Aside0.mk (show B R = part (B s) (i + 1) J by rw [hR]; exact B_S (part_byte _ _ _))
      have HRL := Aside0.mk (show R.size < 2 ^ 40 by rw [← B_length, HRE.out]; exact HPL.out)
      clear hR hW3 HC2 HT2 HR2 hq c1 f1 hx hd2 hd hii hjs h34
      clear HQN HQL
      have hdj : (J == s.size) = true := by rw [beq_iff_eq]; have := HF.out; have := HJ1.out; omega
      have HJE := Aside0.mk (show J = s.size by have := HF.out; have := HJ1.out; omega)
      go_wp2_with ((go_at_call 66; refine HU.out.mono ?_; rintro e w5 ⟨rfl, hc, ht⟩; have c0 := hc.c0; have c1 := hc.c1; have f1 := hc.f1; have HC5 := Aside0.mk hc; have HT5 := Aside0.mk (HT3.out.trans ht); have HR5 := Aside0.mk (HR3.out.turned ht (fun e => H0.out e.symm)); clear hc ht))
      go_quiet (fail)
      go_wp2
      exact bodyPost_ret (v := .tuple #[.string ⟨#[]⟩, .bool false]) (by simp [results, Tryd.results82, go_sem]) rfl ⟨rfl, by rw [← HJE.out]; exact HC5.out.drewN _, HT5.out.drewN _⟩
  · have HF := Aside0.mk hfin
    have HQT := Aside0.mk hqt
    clear hqt
    have c0 := hb.c0
    have c1 := hb.c1
    have hd : ((i : Int) == (s.size : Int)) = false := by rw [beq_eq_false_iff_ne]; omega
    have hd2 : (i == s.size) = false := by rw [beq_eq_false_iff_ne]; omega
    have hii : (i : Int) < (s.size : Int) := by omega
    have hjs : (i : Int) < 1099511627776 := by omega
    have hx := bt_at s (i : Int)
    rw [Int.toNat_natCast] at hx
    have HB := Aside0.mk hb
    have HR := Aside0.mk hR
    have HS := Aside0.mk hs
    have HI := Aside0.mk hi
    have H0 := Aside0.mk h0
    clear hb hR hs hi h0 hfin
    go_enter Tryd.func82, Tryd.ntmps82
    go_wp2
    go_quiet (fail)
    go_wp2
    obtain ⟨W1, hW1⟩ : ∃ W1, W1 = w.drewN nq := ⟨_, rfl⟩
    rw [← hW1]
    have d0 : W1.cell? ⟨b, 0, none⟩ = some (.string s) := by rw [hW1]; exact c0
    have d1 : W1.cell? ⟨b, 1, none⟩ = some (.int .i64 i) := by rw [hW1]; exact c1
    have HC1 := Aside0.mk (show Sc W1 b s i x2 x3 x4 by rw [hW1]; exact HB.out.drewN _)
    have HT1 := Aside0.mk (show Turned (fun k => k = b) w W1 by rw [hW1]; exact (Turned.refl _ _).drewN _)
    clear hW1 c0 c1
    have e0 := fun o => (Below.heap_alloc W1 o b (World.block_lt_of_cell? W1 ⟨b, 0, none⟩ d0))
    have d2 : ∀ o, (W1.alloc o).cell? ⟨b, 0, none⟩ = some (.string s) := fun o => by rw [← d0]; exact World.cell?_of_block (w := W1) (e0 o)
    have d3 : ∀ o, (W1.alloc o).cell? ⟨b, 1, none⟩ = some (.int .i64 i) := fun o => by rw [← d1]; exact World.cell?_of_block (w := W1) (e0 o)
    clear e0
    go_region
    clear d0 d1 d2 d3
    obtain ⟨W2, hW2⟩ : ∃ W2, W2 = (W1.alloc (.cells #[.int .u8 (bt s (i : Int))] 5)).drew := ⟨_, rfl⟩
    rw [← hW2]
    have HT2 := Aside0.mk (show Turned (fun k => k = b) w W2 by rw [hW2]; exact (HT1.out.trans (Turned.of_below (below_one _ _))).drew)
    have HC2 := Aside0.mk (show Sc W2 b s i x2 x3 x4 by rw [hW2]; exact (Below.heap_alloc W1 _ b HC1.out.lt).trans HC1.out)
    have hq : W2.cell? ⟨W1.heap.size, 0, none⟩ = some (.int .u8 (bt s (i : Int))) := by rw [hW2]; exact blk_cell (heap_alloc_new W1 (.cells #[.int .u8 (bt s (i : Int))] 5)) 0
    have HQL := Aside0.mk (show W1.heap.size < W2.heap.size by rw [hW2]; simp)
    have HQN := Aside0.mk (show W1.heap.size ≠ b from fun e => by have := HC1.out.lt; omega)
    have HR2 := Aside0.mk (HR.out.turned HT2.out (fun e => H0.out e.symm))
    generalize W1.heap.size = qb at hq HQL HQN ⊢
    clear hW2 HC1 HT1 HB
    have f1 := HC2.out.f1
    have c1 := HC2.out.c1
    rcases HQT.out with h34 | ⟨h34, h39⟩
    all_goals
      go_upto_region 6 with (fail)
      obtain ⟨W3, hW3⟩ : ∃ W3, W3 = W2.setCell ⟨b, 1, none⟩ (.int .i64 ((i : Int) + 1)) := ⟨_, rfl⟩
      rw [← hW3]
      have HC3 := Aside0.mk (show Sc W3 b s (i + 1) x2 x3 x4 by rw [hW3]; exact HC2.out.at_ (i + 1))
      have HT3 := Aside0.mk (show Turned (fun k => k = b) w W3 by rw [hW3]; exact HT2.out.at_ _ _)
      have HR3 := Aside0.mk (HR.out.turned HT3.out (fun e => H0.out e.symm))
      have HQ3 := Aside0.mk (show W3.cell? ⟨qb, 0, none⟩ = some (.int .u8 (bt s (i : Int))) by rw [hW3, cell_far (by exact HQN.out)]; exact hq)
      have HQL3 := Aside0.mk (show qb < W3.heap.size by rw [hW3]; simpa [World.setCell] using HQL.out)
      have HU := Aside0.mk (until_q s HS.out b (i + 1) HI.out x2 x3 x4 W3 HC3.out qb (fun x => x == bt s (i : Int)) (fun x W hW => is_q_calls x _ qb W (by rw [World.cell?_of_block (w := W3) (hW.block qb HQL3.out HQN.out)]; exact HQ3.out)))
      rw [HV.out] at HU
      obtain ⟨R, hR⟩ : ∃ R, R = S (part (B s) (i + 1) J) := ⟨_, rfl⟩
      rw [← hR] at HU
      have HRE := Aside0.mk (show B R = part (B s) (i + 1) J by rw [hR]; exact B_S (part_byte _ _ _))
      have HRL := Aside0.mk (show R.size < 2 ^ 40 by rw [← B_length, HRE.out]; exact HPL.out)
      clear hR hW3 HC2 HT2 HR2 hq c1 f1 hx hd2 hd hii hjs h34
      clear HQN HQL
      have hdj : (J == s.size) = false := by rw [beq_eq_false_iff_ne]; have := HF.out; omega
      obtain ⟨big, hbig⟩ : ∃ big : Int, big = 1099511627776 := ⟨_, rfl⟩
      have hjs2 : (J : Int) < big := by have := HF.out; have := HS.out; omega
      have hbig2 : big ≤ 4611686018427387904 := by omega
      clear hbig
      go_wp2_with ((go_at_call 66; refine HU.out.mono ?_; rintro e w5 ⟨rfl, hc, ht⟩; have c0 := hc.c0; have c1 := hc.c1; have f1 := hc.f1; have HC5 := Aside0.mk hc; have HT5 := Aside0.mk (HT3.out.trans ht); have HR5 := Aside0.mk (HR3.out.turned ht (fun e => H0.out e.symm)); clear hc ht))
      go_quiet (fail)
      have HC6 := Aside0.mk (show Sc ((w5.drewN nq).setCell ⟨b, 1, none⟩ (.int .i64 ((J : Int) + 1))) b s (J + 1) x2 x3 x4 from (HC5.out.drewN _).at_ (J + 1))
      have HT6 := Aside0.mk (show Turned (fun k => k = b) w ((w5.drewN nq).setCell ⟨b, 1, none⟩ (.int .i64 ((J : Int) + 1))) from (HT5.out.drewN _).at_ _ _)
      have HR6 := Aside0.mk (HR.out.turned HT6.out (fun e => H0.out e.symm))
      clear c0
      go_wp2_with ((go_at_call 40; refine (resolved_calls R HRL.out true _ HR6.out).mono ?_; rintro e w7 ⟨rfl, hb4⟩; rw [HRE.out]; have HC7 := Aside0.mk (HC6.out.turned (Turned.of_below (S := fun _ => False) hb4) (fun h => h)); have HT7 := Aside0.mk (HT6.out.trans (Turned.of_below hb4)); clear hb4))
      exact bodyPost_ret (v := .tuple #[.string (S (refs true (part (B s) (i + 1) J))), .bool true]) (by simp [results, Tryd.results82, go_sem]) rfl ⟨rfl, HC7.out, HT7.out⟩
end Go.Proofs.YtnjnoabldjodcaaDoor.Tok
set_option linter.unusedVariables false
set_option linter.unusedSimpArgs false
namespace Go.Proofs.YtnjnoabldjodcaaDoor.Tok
open Go.RowKit Go.Proofs.YtnjnoabldjodcaaDoorW.PrintWords Go.Proofs.YtnjnoabldjodcaaDoorW.PrintLast Go.Proofs.YtnjnoabldjodcaaDoorW.PrintMore Go.Proofs.YtnjnoabldjodcaaDoor.PFnExactTokens
theorem value_none {s : ByteArray} (hs : s.size < 2 ^ 40) {b i : Nat} (hi : i ≤ s.size) {x2 x3 x4 : Value} {w : World} (hb : Sc w b s i x2 x3 x4) (hR : Refs w) (h0 : b ≠ 0) (hv : valueI (B s) i = none) :
    Calls Tryd.prog 82 #[.pointer (some ⟨b, 0, none⟩)] w fun e w' => e = .returned (.tuple #[.string ⟨#[]⟩, .bool false]) ∧ Sc w' b s s.size x2 x3 x4 ∧ Turned (fun k => k = b) w w' := by
  rcases Nat.lt_or_ge i s.size with hlt | hge
  · unfold valueI at hv
    rw [B_get s i hlt] at hv
    simp only at hv
    split at hv
    · rename_i hq
      split at hv
      · rename_i hf
        rw [B_length] at hf
        refine (value_quoted s hs b i hlt x2 x3 x4 w hb hR h0 ?_).1 hf
        rcases h34 : (bt s (i : Int) == 34) with _ | _
        · rw [h34] at hq; exact .inr ⟨rfl, by simpa using hq⟩
        · exact .inl rfl
      · cases hv
    · cases hv
  · obtain rfl : i = s.size := by omega
    exact value_end s b x2 x3 x4 w hb
theorem value_some {s : ByteArray} (hs : s.size < 2 ^ 40) {b i : Nat} (hi : i ≤ s.size) {x2 x3 x4 : Value} {w : World} (hb : Sc w b s i x2 x3 x4) (hR : Refs w) (h0 : b ≠ 0) {v : Bs} {k : Nat} (hv : valueI (B s) i = some (v, k)) :
    Calls Tryd.prog 82 #[.pointer (some ⟨b, 0, none⟩)] w fun e w' => e = .returned (.tuple #[.string (S v), .bool true]) ∧ Sc w' b s k x2 x3 x4 ∧ Turned (fun k => k = b) w w' := by
  rcases Nat.lt_or_ge i s.size with hlt | hge
  · unfold valueI at hv
    rw [B_get s i hlt] at hv
    simp only at hv
    split at hv
    · rename_i hq
      split at hv
      · cases hv
      · rename_i hf
        rw [B_length] at hf
        injection hv with hv
        injection hv with h1 h2
        subst h1; subst h2
        refine (value_quoted s hs b i hlt x2 x3 x4 w hb hR h0 ?_).2 (by omega)
        rcases h34 : (bt s (i : Int) == 34) with _ | _
        · rw [h34] at hq; exact .inr ⟨rfl, by simpa using hq⟩
        · exact .inl rfl
    · rename_i hq
      injection hv with hv
      injection hv with h1 h2
      subst h1; subst h2
      simp only [Bool.or_eq_true, not_or, Bool.not_eq_true] at hq
      exact value_bare s hs b i hlt x2 x3 x4 w hb hR h0 hq.1 hq.2
  · unfold valueI at hv
    rw [List.getElem?_eq_none (by rw [B_length]; exact hge)] at hv
    cases hv
structure AtSt (w wc : World) (b rb ab : Nat) (s : ByteArray) (j : Nat) (x2 x3 x4 : Value) (n v : ByteArray) : Prop where
  sc : Sc wc b s j x2 x3 x4
  res : wc.heap[rb]? = some (.cells #[.string ⟨#[]⟩, .string ⟨#[]⟩] 62 (0, 0))
  var : wc.heap[ab]? = some (.cells #[.string n, .string v] 62 (0, 0))
  turned : Turned (fun k => k = b) w wc
  rn : w.heap.size ≤ rb
  an : w.heap.size ≤ ab
  ne : rb ≠ ab
  bl : b < w.heap.size
section
variable {w wc w8 : World} {b rb ab : Nat} {s : ByteArray} {j k : Nat} {x2 x3 x4 : Value} {n v : ByteArray}
theorem AtSt.move (h : AtSt w wc b rb ab s j x2 x3 x4 n v) (hs : Sc w8 b s k x2 x3 x4) (ht : Turned (fun k => k = b) wc w8) : AtSt w w8 b rb ab s k x2 x3 x4 n v :=
  ⟨hs, (ht.block rb (blk_lt h.res) (by have := h.rn; have := h.bl; omega)).trans h.res, (ht.block ab (blk_lt h.var) (by have := h.an; have := h.bl; omega)).trans h.var, h.turned.trans ht, h.rn, h.an, h.ne, h.bl⟩
theorem AtSt.at_ (h : AtSt w wc b rb ab s j x2 x3 x4 n v) (k : Nat) : AtSt w (wc.setCell ⟨b, 1, none⟩ (.int .i64 k)) b rb ab s k x2 x3 x4 n v := h.move (h.sc.at_ k) (Turned.put _ _ _ _)
theorem AtSt.drewN (h : AtSt w wc b rb ab s j x2 x3 x4 n v) (m : Nat) : AtSt w (wc.drewN m) b rb ab s j x2 x3 x4 n v := ⟨h.sc, h.res, h.var, h.turned.drewN m, h.rn, h.an, h.ne, h.bl⟩
end
theorem bcell {W w1 : World} (hb : Below W.heap.size W w1) : (∀ b o, b < W.heap.size → w1.cell? ⟨b, o, none⟩ = W.cell? ⟨b, o, none⟩) ∧ (∀ b o, b < W.heap.size → w1.frozen? ⟨b, o, none⟩ = W.frozen? ⟨b, o, none⟩) :=
  ⟨fun b o h => hb.cell (p := ⟨b, o, none⟩) h, fun b o h => hb.frozen (p := ⟨b, o, none⟩) h⟩
section
variable {w w2 W w3 : World} {b rb : Nat} {s : ByteArray} {j : Nat} {x2 x3 x4 : Value}
theorem att_after (hc : Sc w2 b s j x2 x3 x4) (hr : w2.heap[rb]? = some (.cells #[.string ⟨#[]⟩, .string ⟨#[]⟩] 62 (0, 0))) (ht : Turned (fun k => k = b) w w2) (hrn : w.heap.size ≤ rb) (hbl : b < w.heap.size)
    (hb : Below W.heap.size W w3) (hW : W.heap = w2.heap) (h1 : W.os = w2.os) (h2 : W.tape = w2.tape) (h3 : W.output = w2.output) (n : ByteArray) :
    AtSt w (w3.alloc (.cells #[.string n, .string ⟨#[]⟩] 62)) b rb w3.heap.size s j x2 x3 x4 n ⟨#[]⟩ := by
  have hb2 : Below w2.heap.size w2 w3 := by rw [← hW]; exact ⟨hb.os.trans h1, hb.tape.trans h2, hb.output.trans h3, by rw [← hW]; exact hb.size, fun k hk => by rw [← hW]; exact hb.block k hk⟩
  have hz := hb2.size
  have hz2 := ht.size
  have hl := hc.lt
  have hl2 := blk_lt hr
  refine ⟨?_, ?_, heap_alloc_new _ _, (ht.trans (Turned.of_below hb2)).trans (Turned.of_below (below_one _ _)), hrn, by omega, by omega, hbl⟩
  · exact (Below.heap_alloc w3 _ b (by omega)).trans ((hb2.block b hl).trans hc)
  · exact (Below.heap_alloc w3 _ rb (by omega)).trans ((hb2.block rb hl2).trans hr)
theorem att_ahead (hc : Sc w2 b s j x2 x3 x4) (hr : w2.heap[rb]? = some (.cells #[.string ⟨#[]⟩, .string ⟨#[]⟩] 62 (0, 0))) (ht : Turned (fun k => k = b) w w2) (hrn : w.heap.size ≤ rb) (hbl : b < w.heap.size)
    (hb : Below W.heap.size W w3) (hW : W.heap = (w2.alloc (.cells #[.string ⟨#[]⟩, .string ⟨#[]⟩] 62)).heap) (h1 : W.os = w2.os) (h2 : W.tape = w2.tape) (h3 : W.output = w2.output) (n : ByteArray) :
    AtSt w ((w3.setCell ⟨w2.heap.size, 0, none⟩ (.string n)).setCell ⟨w2.heap.size, 1, none⟩ (.string ⟨#[]⟩)) b rb w2.heap.size s j x2 x3 x4 n ⟨#[]⟩ := by
  obtain ⟨w4, hw4⟩ : ∃ w4, w4 = w2.alloc (.cells #[.string ⟨#[]⟩, .string ⟨#[]⟩] 62) := ⟨_, rfl⟩
  have h24 := below_one w2 (.cells #[.string ⟨#[]⟩, .string ⟨#[]⟩] 62)
  have hnew := heap_alloc_new w2 (.cells #[.string ⟨#[]⟩, .string ⟨#[]⟩] 62)
  rw [← hw4] at hW h24 hnew
  have hb2 : Below w4.heap.size w4 w3 := by rw [← hW]; exact ⟨hb.os.trans (h1.trans h24.os.symm), hb.tape.trans (h2.trans h24.tape.symm), hb.output.trans (h3.trans h24.output.symm), by rw [← hW]; exact hb.size, fun k hk => by rw [← hW]; exact hb.block k hk⟩
  have hz := hb2.size
  have hz2 := ht.size
  have hz3 := h24.size
  have hl := hc.lt
  have hl2 := blk_lt hr
  have hl3 := blk_lt hnew
  have ht3 : Turned (fun k => k = b) w w3 := (ht.trans (Turned.of_below h24)).trans (Turned.of_below hb2)
  have hn3 := (hb2.block w2.heap.size hl3).trans hnew
  have hkeep : ∀ k, k ≠ w2.heap.size → ((w3.setCell ⟨w2.heap.size, 0, none⟩ (.string n)).setCell ⟨w2.heap.size, 1, none⟩ (.string ⟨#[]⟩)).heap[k]? = w3.heap[k]? := fun k hk => (Below.heap_setCell _ _ _ k hk).trans (Below.heap_setCell _ _ _ k hk)
  refine ⟨?_, ?_, blk_put (blk_put hn3 0 _ rfl) 1 _ rfl, ?_, hrn, by omega, by omega, hbl⟩
  · exact (hkeep b (by omega)).trans ((hb2.block b (by omega)).trans ((h24.block b hl).trans hc))
  · exact (hkeep rb (by omega)).trans ((hb2.block rb (by omega)).trans ((h24.block rb hl2).trans hr))
  · exact ht3.then_ ((Turned.put _ _ _ _).trans (Turned.put _ _ _ _)) (fun k hk e => by omega)
theorem AtSt.drew {wc : World} {ab : Nat} {n v : ByteArray} (h : AtSt w wc b rb ab s j x2 x3 x4 n v) : AtSt w wc.drew b rb ab s j x2 x3 x4 n v := ⟨h.sc, h.res, h.var, h.turned.drew, h.rn, h.an, h.ne, h.bl⟩
end
def aName (s : ByteArray) (i : Nat) : ByteArray := S (low (part (B s) i (un (B s) [47, 62, 61] (i + 1))))
section
variable {w wc : World} {b rb ab : Nat} {s : ByteArray} {j : Nat} {x2 x3 x4 : Value} {n v : ByteArray}
theorem AtSt.value (h : AtSt w wc b rb ab s j x2 x3 x4 n v) (v' : ByteArray) : AtSt w (wc.setCell ⟨ab, 1, none⟩ (.string v')) b rb ab s j x2 x3 x4 n v' :=
  ⟨(Below.heap_setCell _ _ _ b (by have := h.an; have := h.bl; show b ≠ ab; omega)).trans h.sc, (Below.heap_setCell _ _ _ rb h.ne).trans h.res, blk_put h.var 1 _ rfl, h.turned.then_ (Turned.put _ _ _ _) (fun k hk e => by have := h.an; omega), h.rn, h.an, h.ne, h.bl⟩
theorem AtSt.ret (h : AtSt w wc b rb ab s j x2 x3 x4 n v) : ((wc.setCell ⟨rb, 0, none⟩ (.string n)).setCell ⟨rb, 1, none⟩ (.string v)).heap[rb]? = some (.cells #[.string n, .string v] 62 (0, 0)) ∧ Sc ((wc.setCell ⟨rb, 0, none⟩ (.string n)).setCell ⟨rb, 1, none⟩ (.string v)) b s j x2 x3 x4 ∧ Turned (fun k => k = b) w ((wc.setCell ⟨rb, 0, none⟩ (.string n)).setCell ⟨rb, 1, none⟩ (.string v)) := by
  have hb : b ≠ rb := by have := h.rn; have := h.bl; omega
  exact ⟨blk_put (blk_put h.res 0 _ rfl) 1 _ rfl, (Below.heap_setCell _ _ _ b hb).trans ((Below.heap_setCell _ _ _ b hb).trans h.sc), h.turned.then_ ((Turned.put _ _ _ _).trans (Turned.put _ _ _ _)) (fun k hk e => by have := h.rn; omega)⟩
end
theorem attr_size : (Tryd.prog.info? 62).map (·.size) = some 2 := by kernel_rfl
def AttrPost (s : ByteArray) (b i : Nat) (x2 x3 x4 : Value) (w : World) (e : Ending) (w' : World) : Prop :=
  (pre [61] ((B s).drop (ov (B s) (un (B s) [47, 62, 61] (i + 1)))) = false → e = .returned (.tuple #[.agg #[.string (aName s i), .string ⟨#[]⟩], .bool true]) ∧ Sc w' b s (ov (B s) (un (B s) [47, 62, 61] (i + 1))) x2 x3 x4 ∧ Turned (fun k => k = b) w w') ∧
  (pre [61] ((B s).drop (ov (B s) (un (B s) [47, 62, 61] (i + 1)))) = true →
    (valueI (B s) (ov (B s) (ov (B s) (un (B s) [47, 62, 61] (i + 1)) + 1)) = none → e = .returned (.tuple #[.agg #[.string (aName s i), .string ⟨#[]⟩], .bool false]) ∧ Sc w' b s s.size x2 x3 x4 ∧ Turned (fun k => k = b) w w') ∧
    (∀ v k, valueI (B s) (ov (B s) (ov (B s) (un (B s) [47, 62, 61] (i + 1)) + 1)) = some (v, k) → e = .returned (.tuple #[.agg #[.string (aName s i), .string (S v)], .bool true]) ∧ Sc w' b s k x2 x3 x4 ∧ Turned (fun k => k = b) w w'))
set_option maxHeartbeats 8000000 in
set_option maxRecDepth 100000 in
theorem attr_calls (s : ByteArray) (hs : s.size < 2 ^ 40) (b i : Nat) (hi : i < s.size) (x2 x3 x4 : Value) (w : World) (hb : Sc w b s i x2 x3 x4) (hR : Refs w) (h0 : b ≠ 0) :
    Calls Tryd.prog 68 #[.pointer (some ⟨b, 0, none⟩)] w (AttrPost s b i x2 x3 x4 w) := by
  have hud := Tryd.underlying62
  have HB := Aside0.mk hb
  have HS := Aside0.mk hs
  have HI := Aside0.mk hi
  have HR := Aside0.mk hR
  have H0 := Aside0.mk h0
  have hii : (i : Int) < (s.size : Int) := by omega
  obtain ⟨big, hbig⟩ : ∃ big : Int, big = 1099511627776 := ⟨_, rfl⟩
  have hjs2 : (i : Int) < big := by omega
  have hbig2 : big ≤ 4611686018427387904 := by omega
  clear hb hs hi hR h0 hbig
  go_enter Tryd.func68, Tryd.ntmps68
  go_upto_region 1 with (fail)
  have hrb := heap_alloc_new w (.cells #[.string ⟨#[]⟩, .string ⟨#[]⟩] 62)
  have HC0 := Aside0.mk (show Sc (w.alloc (.cells #[.string ⟨#[]⟩, .string ⟨#[]⟩] 62)) b s i x2 x3 x4 from (Below.heap_alloc w _ b HB.out.lt).trans HB.out)
  have HT0 := Aside0.mk (show Turned (fun k => k = b) w (w.alloc (.cells #[.string ⟨#[]⟩, .string ⟨#[]⟩] 62)) from Turned.of_below (below_one _ _))
  have HBL := Aside0.mk HB.out.lt
  generalize hw0 : World.alloc _ _ = w0
  rw [hw0] at hrb HC0 HT0
  generalize hrbe : w.heap.size = rb at hrb HBL ⊢
  have HRBE := Aside0.mk hrbe
  have HRB := Aside0.mk hrb
  have c1 := HC0.out.c1
  have f1 := HC0.out.f1
  clear hw0 hrbe hrb
  go_upto_region 3 with (fail)
  obtain ⟨w1, hw1⟩ : ∃ w1, w1 = w0.setCell ⟨b, 1, none⟩ (.int .i64 ((i : Int) + 1)) := ⟨_, rfl⟩
  rw [← hw1]
  have HC1 := Aside0.mk (show Sc w1 b s (i + 1) x2 x3 x4 by rw [hw1]; exact HC0.out.at_ (i + 1))
  have HT1 := Aside0.mk (show Turned (fun k => k = b) w w1 by rw [hw1]; exact HT0.out.at_ _ _)
  have HRB1 := Aside0.mk (show w1.heap[rb]? = some (.cells #[.string ⟨#[]⟩, .string ⟨#[]⟩] 62 (0, 0)) by rw [hw1]; exact (Below.heap_setCell _ _ _ _ (Nat.ne_of_gt HBL.out)).trans HRB.out)
  clear hw1 c1 f1
  have HU := Aside0.mk (until_attr s HS.out b (i + 1) HI.out x2 x3 x4 w1 HC1.out (endsIn [47, 62, 61]) (fun x W _ => ends_attr_calls x W))
  obtain ⟨K, hK⟩ : ∃ K, K = un (B s) [47, 62, 61] (i + 1) := ⟨_, rfl⟩
  rw [show i + 1 + sp (fun x => !endsIn [47, 62, 61] x) ((B s).drop (i + 1)) = K from hK.symm] at HU
  have HK := Aside0.mk hK
  have HKS := Aside0.mk (show K ≤ s.size by rw [hK, ← B_length]; exact sp_to (by rw [B_length]; exact HI.out))
  have HLS := Aside0.mk (show (s.extract i K).size < 2 ^ 40 by rw [← B_length, B_extract, List.length_take, List.length_drop, B_length]; have := HS.out; omega)
  have HNM := Aside0.mk (show S (low (B (s.extract i K))) = aName s i by unfold aName; rw [B_extract, ← hK]; rfl)
  have HKI := Aside0.mk (show i ≤ K by rw [hK]; unfold un; omega)
  clear hK
  go_upto_region 4 with ((go_at_call 66; refine HU.out.mono ?_; rintro e w2 ⟨rfl, hc, ht⟩; have HC2 := Aside0.mk hc; have HT2 := Aside0.mk (HT1.out.trans ht); have HRB2 := Aside0.mk ((ht.block rb (blk_lt HRB1.out) (Nat.ne_of_gt HBL.out)).trans HRB1.out); clear hc ht))
  go_cut [5] (fun v5 wc => ∃ ab, v5 = .pointer (some ⟨ab, 0, none⟩) ∧ Aside0 (AtSt w wc b rb ab s K x2 x3 x4 (aName s i) ⟨#[]⟩))
  case first =>
    have c0 := HC2.out.c0
    have c1 := HC2.out.c1
    have hik : (i : Int) ≤ (K : Int) := by have := HKI.out; omega
    have hks : (K : Int) ≤ (s.size : Int) := by have := HKS.out; omega
    have e0 := fun o => (Below.heap_alloc w2 o b HC2.out.lt)
    have d2 : ∀ o, (w2.alloc o).cell? ⟨b, 0, none⟩ = some (.string s) := fun o => by rw [← c0]; exact World.cell?_of_block (w := w2) (e0 o)
    have d3 : ∀ o, (w2.alloc o).cell? ⟨b, 1, none⟩ = some (.int .i64 K) := fun o => by rw [← c1]; exact World.cell?_of_block (w := w2) (e0 o)
    clear e0
    go_region_with ((go_at_call 38; refine (lower_calls (s.extract i K) HLS.out _).mono ?_; rintro e w3 ⟨rfl, hb3⟩; rw [HNM.out]; obtain ⟨hc3, hf3⟩ := bcell hb3; have hz3 := hb3.size; simp at hz3))
    all_goals
      clear hc3 hf3 hz3
      go_wp2
      go_meet
      case rel => first | exact ⟨_, rfl, ⟨att_after HC2.out HRB2.out HT2.out (Nat.le_of_eq HRBE.out) (by rw [HRBE.out]; exact HBL.out) hb3 rfl rfl rfl rfl _⟩⟩ | exact ⟨_, rfl, ⟨att_ahead HC2.out HRB2.out HT2.out (Nat.le_of_eq HRBE.out) (by rw [HRBE.out]; exact HBL.out) hb3 rfl rfl rfl rfl _⟩⟩
  case rest =>
    obtain ⟨ab, rfl, HA⟩ := hcut
    clear HC0 HC1 HC2 HT0 HT1 HT2 HRB HRB1 HRB2 HU hjs2 hbig2
    obtain ⟨J, hJ⟩ : ∃ J, J = ov (B s) K := ⟨_, rfl⟩
    have HWH := Aside0.mk (white_calls s HS.out b K HKS.out x2 x3 x4 wc HA.out.sc)
    rw [← hJ] at HWH
    have HJS := Aside0.mk (show J ≤ s.size by rw [hJ, ← B_length]; exact sp_to (by rw [B_length]; exact HKS.out))
    have HJ := Aside0.mk (show ov (B s) (un (B s) [47, 62, 61] (i + 1)) = J by rw [← HK.out]; exact hJ.symm)
    clear hJ
    go_upto_region 6 with ((go_at_call 67; refine HWH.out.mono ?_; rintro e w5 ⟨rfl, hc, ht⟩; have HA5 := Aside0.mk (HA.out.move hc ht); clear hc ht))
    have c0 := HA5.out.sc.c0
    have c1 := HA5.out.sc.c1
    have f1 := HA5.out.sc.f1
    clear HWH HA
    by_cases hj : J < s.size
    · have hdj : (J == s.size) = false := by rw [beq_eq_false_iff_ne]; omega
      have hdi : ((J : Int) == (s.size : Int)) = false := by rw [beq_eq_false_iff_ne]; omega
      have hjj : (J : Int) < (s.size : Int) := by omega
      have hx := bt_at s (J : Int)
      rw [Int.toNat_natCast] at hx
      have h61 : pre [61] ((B s).drop J) = (bt s (J : Int) == 61) := by rw [pre_cons, pre_nil, B_get s J hj, Bool.and_true, Bool.eq_iff_iff]; simp
      have HJL := Aside0.mk hj
      clear hj
      rcases hq : (bt s (J : Int) == 61) with _ | _
      · have hqn : (bt s (J : Int) != 61) = true := by rw [bne, hq]; rfl
        have H61 := Aside0.mk (h61.trans hq)
        clear h61
        go_quiet (fail)
        have a0 := blk_cell HA5.out.var 0
        have a1 := blk_cell HA5.out.var 1
        have r0 := blk_cell HA5.out.res 0
        have r1 := blk_cell HA5.out.res 1
        have g0 := blk_frozen HA5.out.res 0
        have g1 := blk_frozen HA5.out.res 1
        go_wp2
        refine bodyPost_ret (v := .tuple #[.agg #[.string (aName s i), .string ⟨#[]⟩], .bool true]) (results_list (rs := [.cell 2 62, .tmp 3]) (vs := [.agg #[.string (aName s i), .string ⟨#[]⟩], .bool true]) rfl (by simp) (.cell rb 62 #[.string (aName s i), .string ⟨#[]⟩] (0, 0) _ rfl (HA5.out.drewN nq).ret.1 hud rfl attr_size (.tmp .nil))) rfl ?_
        unfold AttrPost
        rw [HJ.out, H61.out]
        exact ⟨fun _ => ⟨rfl, (HA5.out.drewN nq).ret.2⟩, fun h => by cases h⟩
      · have hqn : (bt s (J : Int) != 61) = false := by rw [bne, hq]; rfl
        have H61 := Aside0.mk (h61.trans hq)
        clear h61
        go_quiet (fail)
        clear c0
        obtain ⟨big, hbig⟩ : ∃ big : Int, big = 1099511627776 := ⟨_, rfl⟩
        have hjs2 : (J : Int) < big := by have := HJL.out; have := HS.out; omega
        have hbig2 : big ≤ 4611686018427387904 := by omega
        clear hbig hjj hdj hdi hx hq hqn
        go_upto_region 9 with (fail)
        obtain ⟨w6, hw6⟩ : ∃ w6, w6 = (w5.drewN nq).setCell ⟨b, 1, none⟩ (.int .i64 ((J : Int) + 1)) := ⟨_, rfl⟩
        rw [← hw6]
        have HA6 := Aside0.mk (show AtSt w w6 b rb ab s (J + 1) x2 x3 x4 (aName s i) ⟨#[]⟩ by rw [hw6]; exact (HA5.out.drewN nq).at_ (J + 1))
        clear hw6 c1 f1 HA5
        obtain ⟨J3, hJ3⟩ : ∃ J3, J3 = ov (B s) (J + 1) := ⟨_, rfl⟩
        have HWH := Aside0.mk (white_calls s HS.out b (J + 1) HJL.out x2 x3 x4 w6 HA6.out.sc)
        rw [← hJ3] at HWH
        have HJ3S := Aside0.mk (show J3 ≤ s.size by rw [hJ3, ← B_length]; exact sp_to (by rw [B_length]; exact HJL.out))
        have HJ3 := Aside0.mk hJ3.symm
        clear hJ3 hjs2 hbig2
        go_upto_region 10 with ((go_at_call 67; refine HWH.out.mono ?_; rintro e w7 ⟨rfl, hc, ht⟩; have HA7 := Aside0.mk (HA6.out.move hc ht); clear hc ht))
        have HR7 := Aside0.mk (HR.out.turned HA7.out.turned (fun e => H0.out e.symm))
        clear HWH HA6
        rcases hv : valueI (B s) J3 with _ | ⟨v, k⟩
        · have HV := Aside0.mk hv
          clear hv
          go_upto_region 11 with ((go_at_call 82; refine (value_none HS.out HJ3S.out HA7.out.sc HR7.out H0.out HV.out).mono ?_; rintro e w8 ⟨rfl, hc, ht⟩; have HA8 := Aside0.mk (HA7.out.move hc ht); clear hc ht))
          have a0 := blk_cell HA8.out.var 0
          have a1 := blk_cell HA8.out.var 1
          have ag1 := blk_frozen HA8.out.var 1
          go_upto_region 12 with (fail)
          obtain ⟨w9, hw9⟩ : ∃ w9, w9 = w8.setCell ⟨ab, 1, none⟩ (.string ⟨#[]⟩) := ⟨_, rfl⟩
          rw [← hw9]
          have HA9 := Aside0.mk (show AtSt w w9 b rb ab s s.size x2 x3 x4 (aName s i) ⟨#[]⟩ by rw [hw9]; exact HA8.out.value _)
          clear hw9 a0 a1 ag1
          have a0 := blk_cell HA9.out.var 0
          have a1 := blk_cell HA9.out.var 1
          have r0 := blk_cell HA9.out.res 0
          have r1 := blk_cell HA9.out.res 1
          have g0 := blk_frozen HA9.out.res 0
          have g1 := blk_frozen HA9.out.res 1
          go_wp2
          refine bodyPost_ret (v := .tuple #[.agg #[.string (aName s i), .string ⟨#[]⟩], .bool false]) (results_list (rs := [.cell 2 62, .tmp 3]) (vs := [.agg #[.string (aName s i), .string ⟨#[]⟩], .bool false]) rfl (by simp) (.cell rb 62 #[.string (aName s i), .string ⟨#[]⟩] (0, 0) _ rfl HA9.out.ret.1 hud rfl attr_size (.tmp .nil))) rfl ?_
          unfold AttrPost
          rw [HJ.out, H61.out, HJ3.out, HV.out]
          exact ⟨(fun h => by cases h), fun _ => ⟨fun _ => ⟨rfl, HA9.out.ret.2⟩, fun v k h => by cases h⟩⟩
        · have HV := Aside0.mk hv
          clear hv
          go_upto_region 11 with ((go_at_call 82; refine (value_some HS.out HJ3S.out HA7.out.sc HR7.out H0.out HV.out).mono ?_; rintro e w8 ⟨rfl, hc, ht⟩; have HA8 := Aside0.mk (HA7.out.move hc ht); clear hc ht))
          have a0 := blk_cell HA8.out.var 0
          have a1 := blk_cell HA8.out.var 1
          have ag1 := blk_frozen HA8.out.var 1
          go_upto_region 12 with (fail)
          obtain ⟨w9, hw9⟩ : ∃ w9, w9 = w8.setCell ⟨ab, 1, none⟩ (.string (S v)) := ⟨_, rfl⟩
          rw [← hw9]
          have HA9 := Aside0.mk (show AtSt w w9 b rb ab s k x2 x3 x4 (aName s i) (S v) by rw [hw9]; exact HA8.out.value _)
          clear hw9 a0 a1 ag1
          have a0 := blk_cell HA9.out.var 0
          have a1 := blk_cell HA9.out.var 1
          have r0 := blk_cell HA9.out.res 0
          have r1 := blk_cell HA9.out.res 1
          have g0 := blk_frozen HA9.out.res 0
          have g1 := blk_frozen HA9.out.res 1
          go_wp2
          refine bodyPost_ret (v := .tuple #[.agg #[.string (aName s i), .string (S v)], .bool true]) (results_list (rs := [.cell 2 62, .tmp 3]) (vs := [.agg #[.string (aName s i), .string (S v)], .bool true]) rfl (by simp) (.cell rb 62 #[.string (aName s i), .string (S v)] (0, 0) _ rfl HA9.out.ret.1 hud rfl attr_size (.tmp .nil))) rfl ?_
          unfold AttrPost
          rw [HJ.out, H61.out, HJ3.out, HV.out]
          exact ⟨(fun h => by cases h), fun _ => ⟨(fun h => by cases h), fun v' k' h => by injection h with h; injection h with h1 h2; subst h1; subst h2; exact ⟨rfl, HA9.out.ret.2⟩⟩⟩
    · have hdj : (J == s.size) = true := by rw [beq_iff_eq]; have := HJS.out; omega
      have hdi : ((J : Int) == (s.size : Int)) = true := by rw [beq_iff_eq]; have := HJS.out; omega
      have H61 := Aside0.mk (show pre [61] ((B s).drop J) = false by rw [List.drop_eq_nil_of_le (by rw [B_length]; omega)]; rfl)
      clear hj
      go_quiet (fail)
      have a0 := blk_cell HA5.out.var 0
      have a1 := blk_cell HA5.out.var 1
      have r0 := blk_cell HA5.out.res 0
      have r1 := blk_cell HA5.out.res 1
      have g0 := blk_frozen HA5.out.res 0
      have g1 := blk_frozen HA5.out.res 1
      go_wp2
      refine bodyPost_ret (v := .tuple #[.agg #[.string (aName s i), .string ⟨#[]⟩], .bool true]) (results_list (rs := [.cell 2 62, .tmp 3]) (vs := [.agg #[.string (aName s i), .string ⟨#[]⟩], .bool true]) rfl (by simp) (.cell rb 62 #[.string (aName s i), .string ⟨#[]⟩] (0, 0) _ rfl (HA5.out.drewN nq).ret.1 hud rfl attr_size (.tmp .nil))) rfl ?_
      unfold AttrPost
      rw [HJ.out, H61.out]
      exact ⟨fun _ => ⟨rfl, (HA5.out.drewN nq).ret.2⟩, fun h => by cases h⟩
end Go.Proofs.YtnjnoabldjodcaaDoor.Tok
set_option linter.unusedVariables false
set_option linter.unusedSimpArgs false
namespace Go.Proofs.YtnjnoabldjodcaaDoor.Tok
open Go.RowKit Go.Proofs.YtnjnoabldjodcaaDoorW.PrintWords Go.Proofs.YtnjnoabldjodcaaDoorW.PrintLast Go.Proofs.YtnjnoabldjodcaaDoorW.PrintMore Go.Proofs.YtnjnoabldjodcaaDoor.PFnExactTokens
theorem same_calls (x : A) (nm : ByteArray) (qa : Nat) (w : World) (hq : w.cell? ⟨qa, 0, none⟩ = some (.string nm)) : Calls Tryd.prog 70 #[.agg #[.string x.f0, .string x.f1], .pointer (some ⟨qa, 0, none⟩)] w fun e w' => e = .returned (.bool (decide (x.f0 = nm))) ∧ Below w.heap.size w w' := by
  have hud := Tryd.underlying62
  have hl := World.block_lt_of_cell? w _ hq
  go_enter Tryd.func70, Tryd.ntmps70
  go_wp2
  go_ret
  refine ⟨ret_bool ?_, below_one _ _⟩
  rw [Bool.eq_iff_iff, beq_iff_eq, decide_eq_true_iff, toList_eq]
  exact ⟨B_inj, fun h => by rw [h]⟩
set_option maxHeartbeats 2000000 in
set_option maxRecDepth 100000 in
theorem index_calls (al : List A) (Ad : Option Addr) (c : Nat) (w : World) (hC : Kd.C k62 w Ad al.length al) (hl : al.length < 2 ^ 40) (nm : ByteArray) (qa : Nat) (hq : w.cell? ⟨qa, 0, none⟩ = some (.string nm)) :
    Calls Tryd.prog 83 #[.slice Ad al.length c, .func (.func 70) #[] #[.pointer (some ⟨qa, 0, none⟩)]] w fun e w' => ∃ r : Int, e = .returned (.int .i64 r) ∧ Aside0 (decide (0 ≤ r) = hasA al nm) ∧ Below w.heap.size w w' := by
  have hud := Tryd.underlying62
  have HC := Aside0.mk hC
  have HL := Aside0.mk hl
  have HQ := Aside0.mk hq
  clear hC hl hq
  go_enter Tryd.func83, Tryd.ntmps83
  go_wp2
  go_loopg [8] (al.length + 1) (fun kq v8 wr => ∃ (j : Nat), v8 = .int .i64 j ∧ Aside0 (j ≤ al.length ∧ al.length < j + kq ∧ hasA al nm = hasA (al.drop j) nm) ∧ Aside0 (Below w.heap.size w wr))
  case atStart => exact ⟨0, rfl, ⟨Nat.zero_le _, by omega, rfl⟩, ⟨Below.refl _ _⟩⟩
  case round =>
    obtain ⟨j, rfl, HJ, HB⟩ := hrel
    by_cases hj : j < al.length
    · obtain ⟨g, rfl⟩ : ∃ g, gk = g + 1 := ⟨gk - 1, by have := HJ.out.2.1; omega⟩
      obtain ⟨ad, rfl, hx0, hx1⟩ := at_T62 (Kd.C_below HC.out HB.out) (j : Int) (by omega) (by omega)
      have hd : decide (j < al.length) = true := decide_eq_true hj
      have hd2 : decide ((j : Int) < (al.length : Int)) = true := decide_eq_true (by omega)
      obtain ⟨big, hbig⟩ : ∃ big : Int, big = 1099511627776 := ⟨_, rfl⟩
      have hjb : (j : Int) < big := by have := HL.out; omega
      have hbig2 : big ≤ 4611686018427387904 := by omega
      clear hbig
      have hrd : rd_T62 al (j : Int) = al[j] := by simp [rd_T62, hj]
      rw [hrd] at hx0 hx1
      simp only [Int.toNat_natCast] at hx0 hx1
      obtain ⟨x, hx⟩ : ∃ x, x = al[j] := ⟨_, rfl⟩
      rw [← hx] at hx0 hx1
      have hst : hasA (al.drop j) nm = (decide (x.f0 = nm) || hasA (al.drop (j + 1)) nm) := by
        rw [List.drop_eq_getElem_cons hj, hx]
        rfl
      have hij : (j : Int) < (al.length : Int) := by omega
      have HJL := Aside0.mk hj
      clear hx hrd hj
      rcases hb : decide (x.f0 = nm) with _ | _
      · have HN := Aside0.mk (show hasA al nm = hasA (al.drop (j + 1)) nm by rw [HJ.out.2.2, hst, hb, Bool.false_or])
        have HSM := Aside0.mk (fun W (hW : W.cell? ⟨qa, 0, none⟩ = some (.string nm)) => (same_calls x nm qa W hW).mono (fun e w' (h : e = _ ∧ Below W.heap.size W w') => (⟨by rw [h.1, hb], h.2⟩ : e = .returned (.bool false) ∧ Below W.heap.size W w')))
        clear hst hb
        go_wp2_with ((go_at_call 70; refine (HSM.out _ (by rw [HB.out.cell (p := ⟨qa, 0, none⟩) (World.block_lt_of_cell? w _ HQ.out)]; exact HQ.out)).mono ?_; rintro e w8 ⟨rfl, hb8⟩; have HB8 := Aside0.mk (below_step HB.out hb8); clear hb8))
        go_roundg g
        case measure => omega
        case rel => exact ⟨j + 1, by rfl, ⟨HJL.out, by have := HJ.out.2.1; omega, HN.out⟩, HB8⟩
      · have HN := Aside0.mk (show hasA al nm = true by rw [HJ.out.2.2, hst, hb, Bool.true_or])
        have HSM := Aside0.mk (fun W (hW : W.cell? ⟨qa, 0, none⟩ = some (.string nm)) => (same_calls x nm qa W hW).mono (fun e w' (h : e = _ ∧ Below W.heap.size W w') => (⟨by rw [h.1, hb], h.2⟩ : e = .returned (.bool true) ∧ Below W.heap.size W w')))
        clear hst hb
        go_wp2_with ((go_at_call 70; refine (HSM.out _ (by rw [HB.out.cell (p := ⟨qa, 0, none⟩) (World.block_lt_of_cell? w _ HQ.out)]; exact HQ.out)).mono ?_; rintro e w8 ⟨rfl, hb8⟩; have HB8 := Aside0.mk (below_step HB.out hb8); clear hb8))
        go_ret
        exact ⟨_, rfl, ⟨by rw [HN.out, decide_eq_true_iff]; omega⟩, HB8.out⟩
    · have hd : decide (j < al.length) = false := decide_eq_false hj
      have hd2 : decide ((j : Int) < (al.length : Int)) = false := decide_eq_false (by omega)
      have HN := Aside0.mk (show hasA al nm = false by rw [HJ.out.2.2, List.drop_eq_nil_of_le (by omega)]; rfl)
      clear hj
      go_wp2
      go_ret
      exact ⟨_, rfl, ⟨by rw [HN.out]; rfl⟩, HB.out⟩
set_option maxHeartbeats 2000000 in
set_option maxRecDepth 100000 in
theorem contains_calls (al : List A) (Ad : Option Addr) (c : Nat) (w : World) (hC : Kd.C k62 w Ad al.length al) (hl : al.length < 2 ^ 40) (nm : ByteArray) (qa : Nat) (hq : w.cell? ⟨qa, 0, none⟩ = some (.string nm)) :
    Calls Tryd.prog 69 #[.slice Ad al.length c, .func (.func 70) #[] #[.pointer (some ⟨qa, 0, none⟩)]] w fun e w' => e = .returned (.bool (hasA al nm)) ∧ Below w.heap.size w w' := by
  have HX := Aside0.mk (index_calls al Ad c w hC hl nm qa hq)
  clear hC hl hq
  go_enter Tryd.func69, Tryd.ntmps69
  go_wp2_with ((go_at_call 83; refine HX.out.mono ?_; rintro e w8 ⟨r, rfl, HRR, hb8⟩; have HB8 := Aside0.mk hb8; clear hb8))
  go_ret
  exact ⟨ret_bool HRR.out, HB8.out⟩
end Go.Proofs.YtnjnoabldjodcaaDoor.Tok
