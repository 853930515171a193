/- laws.FnExactFire: what it answers. -/
import Derived.Test.YtcjaakbmabhmdaaMarks
import Derived.Test.YtcjaakbmabhmdaaSpecFire
import Derived.Test.YtcjaakbmabhmdaaImplFire
namespace Go.Proofs.Ytcjaakbmabhmdaa.Impl
open Go.RowKit Go.Proofs.YtcjaakbmabhmdaaW.PrintWords Go.Proofs.YtcjaakbmabhmdaaW.PrintLast Go.Proofs.YtcjaakbmabhmdaaW.PrintMore Go.Proofs.Ytcjaakbmabhmdaa.PFnExactFire Go.Proofs.Ytcjaakbmabhmdaa.MapLib Go.Proofs.Ytcjaakbmabhmdaa.FireSpec Go.Proofs.Ytcjaakbmabhmdaa.Tr
set_option linter.unusedVariables false
set_option linter.unusedSimpArgs false

theorem fired_unique {ns : List S52} {id : Int} {kind : ByteArray} {hs : List S53} {r r' : List Int} (h : Fired ns id kind hs r) (h' : Fired ns id kind hs r') : r = r' := by
  unfold Fired at h h'
  split at h
  · rename_i hc
    rw [if_pos hc] at h'
    cases hp : place ns id with
    | none => simp only [hp] at h h'; rw [h, h']
    | some j =>
      simp only [hp] at h h'
      obtain ⟨L, hL, e⟩ := h
      obtain ⟨L', hL', e'⟩ := h'
      rw [e, e', hL.unique hL']
  · rename_i hc
    rw [if_neg hc] at h'
    rw [h, h']
theorem fired_length {ns : List S52} {id : Int} {kind : ByteArray} {hs : List S53} {r : List Int} (h : Fired ns id kind hs r) : r.length ≤ 8001000 := by
  unfold Fired at h
  split at h
  · rename_i hc
    cases hp : place ns id with
    | none => simp only [hp] at h; subst h; simp
    | some j =>
      simp only [hp] at h
      obtain ⟨L, hL, e⟩ := h
      obtain ⟨p1, p2, _⟩ := treeOk_parts hc.1
      have h1 := (place_some hp).1
      have h2 := hL.length
      have h3 : hs.length ≤ 1000 := by have := hc.2; unfold handsOk at this; rw [Bool.and_eq_true, decide_eq_true_eq] at this; exact this.1
      have h4 := runL_length hs (stages (idsOf ns L) id kind) ([], false)
      have h5 := runL_run hs (stages (idsOf ns L) id kind) []
      rw [h5, ← e] at h4
      have h6 : (stages (idsOf ns L) id kind).length ≤ 8001 := by rw [stages_length]; simp [pathOf, idsOf]; omega
      have h7 : (stages (idsOf ns L) id kind).length * hs.length ≤ 8001 * 1000 := Nat.mul_le_mul h6 h3
      simp at h4
      omega
  · subst h; simp
theorem cost_bound : ∀ xs : List S52, (∀ n ∈ xs, n.f3.length ≤ 1048576) → cost xs ≤ xs.length * 2097157
  | [], _ => by simp [cost]
  | x :: xs, h => by
    have h1 := cost_bound xs (fun n hn => h n (List.mem_cons_of_mem _ hn))
    have h2 := h x List.mem_cons_self
    have e : cost (x :: xs) = (5 + 2 * x.f3.length) + cost xs := by simp [cost]
    rw [e, List.length_cons, Nat.succ_mul]
    omega
def Iv (a b k : Nat) : Prop := a ≤ k ∧ k < b
def LawEnd (w : World) (e : Ending) (w' : World) : Prop := e = .returned (.bool true) ∧ Below w.heap.size w w'
set_option maxHeartbeats 4000000 in
set_option maxRecDepth 100000 in
theorem law_calls (A : Option Addr) (c : Nat) (xs : List S80) (id : Int) (kind : ByteArray) (Ah : Option Addr) (ch : Nat) (hs : List S46) (w : World) (hr : Kd.C k80 w A xs.length xs) (hc : xs.length ≤ c) (hx : ∀ a ∈ xs, nodeFit a) (hwf : ∀ n ∈ xs, n.f5 ≤ 9223372036854775807) (hxl : xs.length ≤ 9223372036854775807)
    (hrh : Kd.C k46 w Ah hs.length hs) (hch : hs.length ≤ ch) (hhx : ∀ a ∈ hs, handFit a) (hhl : hs.length ≤ 9223372036854775807) :
    Calls Try.prog 3 #[.agg #[.slice A xs.length c], .int .i64 id, .string kind, .slice Ah hs.length ch] w (LawEnd w) := by
  have hut := Try.underlying24
  have huh := Try.underlying46
  have huti := Try.underlying32
  obtain ⟨r1, hr1, hl1⟩ := szTree_f xs hx hxl 1048576 (by omega) (by omega)
  obtain ⟨k1, hk1⟩ := hr1.some
  have HS1 := Aside0.mk (show ∀ W, Below w.heap.size w W → Calls Try.prog 4 #[.agg #[.slice A xs.length c], .int .i64 1048576] W fun e w' => e = .returned (.int .i64 r1) ∧ Below W.heap.size W w' from fun W hW => laws_szTree.calls k1 A c xs 1048576 r1 W (Kd.C_below hr hW) hc hk1)
  have HR := Aside0.mk (And.intro hr hc)
  have HRH := Aside0.mk (And.intro hrh hch)
  have HWF := Aside0.mk hwf
  have HHX := Aside0.mk (And.intro hhx hhl)
  clear hr hc hx hxl hrh hch hhx hhl hr1 hk1 hwf
  have hal : Below w.heap.size w (w.alloc (Obj.cells #[.slice A xs.length c] 24)) := (Below.refl _ _).alloc (Nat.le_refl _) _
  have HAL := Aside0.mk (And.intro hal (blk_newest w (Obj.cells #[.slice A xs.length c] 24)))
  clear hal
  rcases Bool.eq_false_or_eq_true (decide ((kind.size : Int) > 1048576)) with hz | hz
  · go_enter Try.func3, Try.ntmps3
    go_wp2
    go_ret
    exact ⟨rfl, HAL.out.1⟩
  rcases hl1 with hl1 | ⟨hl1, hl2, hl3, hl4⟩
  · subst hl1
    go_enter Try.func3, Try.ntmps3
    go_wp2_with (first | (go_at_call 4; refine (HS1.out _ HAL.out.1).mono ?_; rintro e w1 ⟨rfl, hb1⟩; have HB1 := Aside0.mk (below_step HAL.out.1 hb1); clear hb1))
    go_ret
    exact ⟨rfl, HB1.out⟩
  obtain ⟨r2, hr2, hm1⟩ := szHandlerS_f hs HHX.out.1 HHX.out.2 r1 hl1 hl2
  obtain ⟨k2, hk2⟩ := hr2.some
  have HS2 := Aside0.mk (show ∀ W, Below w.heap.size w W → Calls Try.prog 5 #[.slice Ah hs.length ch, .int .i64 r1] W fun e w' => e = .returned (.int .i64 r2) ∧ Below W.heap.size W w' from fun W hW => by
    have h := laws_szHandlerS.calls k2 Ah ch hs r1 r2 W (Kd.C_below HRH.out.1 hW) HRH.out.2 hk2
    first | exact h | exact h.mono fun e w' h => ⟨h.1, drawn0_below h.2⟩)
  have hrr : decide (r1 < 0) = false := decide_eq_false (by omega)
  clear hr2 hk2
  rcases hm1 with hm1 | ⟨hm1, hm2, hm3⟩
  · subst hm1
    go_enter Try.func3, Try.ntmps3
    go_wp2_with (first | (go_at_call 4; refine (HS1.out _ HAL.out.1).mono ?_; rintro e w1 ⟨rfl, hb1⟩; have HB1 := Aside0.mk (below_step HAL.out.1 hb1); clear hb1) | (go_at_call 5; refine (HS2.out _ HB1.out).mono ?_; rintro e w2 ⟨rfl, hb2⟩; have HB2 := Aside0.mk (below_step HB1.out hb2); clear hb2))
    go_ret
    exact ⟨rfl, HB2.out⟩
  have hrs : decide (r2 < 0) = false := decide_eq_false (by omega)
  obtain ⟨cp, hcp⟩ : ∃ cp, xs.map cpNode = cp := ⟨_, rfl⟩
  obtain ⟨hp, hhp⟩ : ∃ hp, hs.map cpHand = hp := ⟨_, rfl⟩
  have hcpl : cp.length = xs.length := by rw [← hcp, List.length_map]
  have hhpl : hp.length = hs.length := by rw [← hhp, List.length_map]
  have hca : ∀ n ∈ cp, n.f3.length ≤ 1048576 := fun n hn => by
    rw [← hcp] at hn
    obtain ⟨m, hm, rfl⟩ := List.mem_map.1 hn
    simpa [cpNode] using hl4 m hm
  have hcw : ∀ n ∈ cp, n.f5 ≤ 9223372036854775807 := fun n hn => by
    rw [← hcp] at hn
    obtain ⟨m, hm, rfl⟩ := List.mem_map.1 hn
    exact HWF.out m hm
  have HTO := Aside0.mk (show ∀ W, Below w.heap.size w W → Calls Try.prog 7 #[.agg #[.slice A xs.length c]] W fun e w' => ∃ A1 c1, e = .returned (.agg #[.slice A1 cp.length c1]) ∧ Kd.S k52 52 w' w.heap.size (Iv W.heap.size w'.heap.size) (.slice A1 cp.length c1) cp ∧ cp.length ≤ c1 ∧ Kd.C k52 w' A1 cp.length cp ∧ Below W.heap.size W w' from fun W hW => by
    obtain ⟨k, hk⟩ := (toTree_f xs hl4 (by omega)).some
    refine (laws_toTree.calls k A c xs _ W (Kd.C_below HR.out.1 hW) HR.out.2 hk).mono fun e w' h => ?_
    obtain ⟨v, rfl, h1, h2⟩ := h
    rw [hcp] at h1
    obtain ⟨A1, c1, rfl, h3, h4⟩ := Kd.S_reads h1
    exact ⟨A1, c1, rfl, Kd.S_lower (Kd.S_mono (Kd.S_bound h1) (fun k hk => ⟨hk.2.1, hk.2.2.1⟩)) hW.size, h3, h4, h2⟩)
  have HTH := Aside0.mk (show ∀ W, Below w.heap.size w W → Calls Try.prog 8 #[.slice Ah hs.length ch] W fun e w' => ∃ A1 c1, e = .returned (.slice A1 hp.length c1) ∧ Kd.R k53 53 w' w.heap.size (Iv W.heap.size w'.heap.size) (.slice A1 hp.length c1) hp ∧ hp.length ≤ c1 ∧ Kd.C k53 w' A1 hp.length hp ∧ Below W.heap.size W w' from fun W hW => by
    obtain ⟨k, hk⟩ := (toHandlerS_f hs (by omega)).some
    refine (laws_toHandlerS.calls k Ah ch hs _ W (Kd.C_below HRH.out.1 hW) HRH.out.2 hk).mono fun e w' h => ?_
    obtain ⟨v, rfl, h1, h2⟩ := h
    rw [hhp] at h1
    obtain ⟨A1, c1, rfl, h3, h4⟩ := Kd.R_reads h1
    exact ⟨A1, c1, rfl, Kd.R_lower (Kd.R_mono (Kd.R_bound h1) (fun k hk => ⟨hk.2.1, hk.2.2.1⟩)) hW.size, h3, h4, h2⟩)
  have HSF := Aside0.mk (show ∀ W A1 c1 A2 c2, Below w.heap.size w W → Kd.C k52 W A1 cp.length cp → cp.length ≤ c1 → Kd.C k53 W A2 hp.length hp → hp.length ≤ c2 → Calls Try.prog 6 #[.agg #[.slice A1 cp.length c1], .int .i64 id, .string kind, .slice A2 hp.length c2] W fun e w' => ∃ r A3 c3, e = .returned (.slice A3 r.length c3) ∧ Fired cp id kind hp r ∧ Kd.R (Kd.int .i64) 3 w' w.heap.size (Iv W.heap.size w'.heap.size) (.slice A3 r.length c3) r ∧ Below W.heap.size W w' from fun W A1 c1 A2 c2 hW hC hc1 hH hc2 => by
    refine (specFire_calls A1 c1 cp id kind A2 c2 hp W hC hc1 (fun n hn => by have := hca n hn; omega) (by omega) hH hc2 (by omega)).mono fun e w' h => ?_
    obtain ⟨r, v, rfl, h1, h2, h3⟩ := h
    obtain ⟨A3, c3, rfl⟩ := Kd.R_slice h2
    exact ⟨r, A3, c3, rfl, h1, Kd.R_lower (Kd.R_mono (Kd.R_bound h2) (fun k hk => ⟨hk.2.1, hk.2.2.1⟩)) hW.size, h3⟩)
  have HIF := Aside0.mk (show ∀ W A1 c1 A2 c2, Below w.heap.size w W → Kd.C k52 W A1 cp.length cp → cp.length ≤ c1 → Kd.C k53 W A2 hp.length hp → hp.length ≤ c2 → Calls Try.prog 9 #[.agg #[.slice A1 cp.length c1], .int .i64 id, .string kind, .slice A2 hp.length c2] W fun e w' => ∃ r A3 c3, e = .returned (.slice A3 r.length c3) ∧ Fired cp id kind hp r ∧ Kd.R (Kd.int .i64) 3 w' w.heap.size (Iv W.heap.size w'.heap.size) (.slice A3 r.length c3) r ∧ Below W.heap.size W w' from fun W A1 c1 A2 c2 hW hC hc1 hH hc2 => by
    refine (fire_calls A1 c1 cp id kind A2 c2 hp W hC hc1 hcw hH hc2 (by omega)).mono fun e w' h => ?_
    obtain ⟨r, v, rfl, h1, h2, h3⟩ := h
    obtain ⟨A3, c3, rfl⟩ := Kd.R_slice h2
    exact ⟨r, A3, c3, rfl, h1, Kd.R_lower (Kd.R_mono (Kd.R_bound h2) (fun k hk => ⟨hk.2.1, hk.2.2.1⟩)) hW.size, h3⟩)
  have HQ := Aside0.mk (show ∀ (r : List Int) W A1 c1 A2 c2, r.length ≤ 8001000 → Kd.C (Kd.int .i64) W A1 r.length r → r.length ≤ c1 → Kd.C (Kd.int .i64) W A2 r.length r → r.length ≤ c2 → Calls Try.prog 10 #[.slice A1 r.length c1, .slice A2 r.length c2] W fun e w' => e = .returned (.bool true) ∧ Below W.heap.size W w' from fun r W A1 c1 A2 c2 hl h1 h2 h3 h4 => by
    obtain ⟨k, hk⟩ := (eqIntS_f r (by omega)).some
    exact (laws_eqIntS.calls k A1 c1 r A2 c2 r true W h1 h2 h3 h4 hk).mono fun e w' h => ⟨h.1, drawn0_below h.2⟩)
  have HET := Aside0.mk (show ∀ W A1 c1 A2 c2, Kd.C k52 W A1 cp.length cp → cp.length ≤ c1 → Kd.C k52 W A2 cp.length cp → cp.length ≤ c2 → Calls Try.prog 11 #[.agg #[.slice A1 cp.length c1], .agg #[.slice A2 cp.length c2]] W fun e w' => e = .returned (.bool true) ∧ Below W.heap.size W w' from fun W A1 c1 A2 c2 h1 h2 h3 h4 => by
    obtain ⟨k, hk⟩ := (eqTree_f cp (fun n hn => by have := hca n hn; omega) (by omega)).some
    exact laws_eqTree.calls k A1 c1 cp A2 c2 cp true W h1 h2 h3 h4 hk)
  have HEH := Aside0.mk (show ∀ W A1 c1 A2 c2, Kd.C k53 W A1 hp.length hp → hp.length ≤ c1 → Kd.C k53 W A2 hp.length hp → hp.length ≤ c2 → Calls Try.prog 12 #[.slice A1 hp.length c1, .slice A2 hp.length c2] W fun e w' => e = .returned (.bool true) ∧ Below W.heap.size W w' from fun W A1 c1 A2 c2 h1 h2 h3 h4 => by
    obtain ⟨k, hk⟩ := (eqHandlerS_f hp (by omega)).some
    exact laws_eqHandlerS.calls k A1 c1 hp A2 c2 hp true W h1 h2 h3 h4 hk)
  have HMI := Aside0.mk (show ∀ (r : List Int) (P : Nat → Prop) (v : Value) W, r.length ≤ 8001000 → Below w.heap.size w W → Kd.R (Kd.int .i64) 3 W w.heap.size P v r → Calls Try.prog 15 #[v, .int .i64 1] W fun e w' => e = .returned (.int .i64 (1 + (r.length : Int))) ∧ Kd.R (Kd.int .i64) 3 w' w.heap.size (fun _ => True) v (countUp 1 r.length) ∧ Below w.heap.size w w' ∧ Kept W w' P from fun r P v W hl hb hR => by
    obtain ⟨k, hk⟩ := (markIntS_f r 1 (by omega) (by omega)).some
    exact (laws_markIntS.calls k P v r 1 _ _ w W hb hR hk).mono fun e w' h => ⟨h.1, Kd.R_mono h.2.1 (fun _ _ => trivial), h.2.2.1, h.2.2.2⟩)
  have HHI := Aside0.mk (show ∀ (r : List Int) A1 c1 W, r.length ≤ 8001000 → Kd.R (Kd.int .i64) 3 W w.heap.size (fun _ => True) (.slice A1 r.length c1) (countUp 1 r.length) → Calls Try.prog 16 #[.slice A1 r.length c1, .int .i64 1] W fun e w' => e = .returned (.int .i64 (1 + (r.length : Int))) ∧ Below W.heap.size W w' from fun r A1 c1 W hl hR => by
    obtain ⟨k, hk⟩ := (heldIntS_f 1 r.length (by omega) (by omega)).some
    have h3 := Kd.R_reads' hR
    have h4 := laws_heldIntS.calls k A1 c1 (countUp 1 r.length) 1 _ W h3.2.2 (by rw [← h3.1]; exact h3.2.1) hk
    rw [← h3.1] at h4
    first | exact h4 | exact h4.mono fun e w' h => ⟨h.1, drawn0_below h.2⟩)
  have HCOST := Aside0.mk (show (1 : Int) + cost cp < 2 ^ 58 by
    have := cost_bound cp hca
    have h2 : cp.length * 2097157 ≤ 1048576 * 2097157 := Nat.mul_le_mul_right _ (by omega)
    omega)
  have HLN := Aside0.mk (And.intro (show cp.length ≤ 1048576 by omega) (And.intro (show hp.length ≤ 1048576 by omega) hca))
  clear hl4 hcp hhp hcpl hhpl hca hcw HHX HWF
  go_enter Try.func3, Try.ntmps3
  go_upto_region 10 with (first | (go_at_call 4; refine (HS1.out _ HAL.out.1).mono ?_; rintro e w1 ⟨rfl, hb1⟩; have HB1 := Aside0.mk (And.intro (below_step HAL.out.1 hb1) (blk_below HAL.out.2 hb1)); clear hb1) | (go_at_call 5; refine (HS2.out _ HB1.out.1).mono ?_; rintro e w2 ⟨rfl, hb2⟩; have HB2 := Aside0.mk (And.intro (below_step HB1.out.1 hb2) (blk_below HB1.out.2 hb2)); have hct2 := blk_cell HB2.out.2 0; clear hb2))
  clear hrr hrs hz hl1 hl2 hl3 hm1 hm2 hm3 HS1 HS2
  go_upto_region 11 with (first | (go_at_call 7; refine (HTO.out _ HB2.out.1).mono ?_; rintro e w3 ⟨A3, c3, rfl, hS3, hc3, hC3, hb3⟩; have HB3 := Aside0.mk (And.intro (below_step HB2.out.1 hb3) (blk_below HB2.out.2 hb3)); have HT3 := Aside0.mk (And.intro hc3 hC3); clear hS3 hc3 hC3 hb3) | (go_at_call 8; refine (HTH.out _ HB3.out.1).mono ?_; rintro e w4 ⟨A4, c4, rfl, hR4, hc4, hC4, hb4⟩; have HB4 := Aside0.mk (And.intro (below_step HB3.out.1 hb4) (blk_below HB3.out.2 hb4)); have HT4 := Aside0.mk (And.intro hc4 (And.intro hC4 (Kd.C_below HT3.out.2 hb4))); clear hR4 hc4 hC4 hb4) | (go_at_call 6; refine (HSF.out _ A3 c3 A4 c4 HB4.out.1 HT4.out.2.2 HT3.out.1 HT4.out.2.1 HT4.out.1).mono ?_; rintro e w5 ⟨r, A5, c5, rfl, hF, hR5, hb5⟩; have HB5 := Aside0.mk (And.intro (below_step HB4.out.1 hb5) (blk_below HB4.out.2 hb5)); have HF := Aside0.mk (And.intro hF (fired_length hF)); have H10 := Aside0.mk hR5; have hct5 := blk_cell HB5.out.2 0; clear hF hR5 hb5))
  clear hct2
  go_upto_region 12 with (first | (go_at_call 7; refine (HTO.out _ HB5.out.1).mono ?_; rintro e w6 ⟨A6, c6, rfl, hS6, hc6, hC6, hb6⟩; have HB6 := Aside0.mk (And.intro (below_step HB5.out.1 hb6) (blk_below HB5.out.2 hb6)); have H10b := Aside0.mk (Kd.R_below H10.out hb6); have HS6 := Aside0.mk (And.intro hS6 (And.intro hc6 (And.intro hC6 hb6.size))); clear hS6 hc6 hC6 hb6))
  clear hct5
  have hblk7 := blk_newest w6 (Obj.cells #[.slice A6 cp.length c6] 32)
  have hb7 : Below w6.heap.size w6 (w6.alloc (Obj.cells #[.slice A6 cp.length c6] 32)) := (Below.refl _ _).alloc (Nat.le_refl _) _
  have hsz7 : (w6.alloc (Obj.cells #[.slice A6 cp.length c6] 32)).heap.size = w6.heap.size + 1 := by simp
  generalize hw7 : World.alloc w6 _ = w7
  rw [hw7] at hblk7 hb7 hsz7
  have HB7 := Aside0.mk (And.intro (below_step HB6.out.1 hb7) (blk_below HB6.out.2 hb7))
  have HTB7 := Aside0.mk hblk7
  have H107 := Aside0.mk (Kd.R_below H10b.out hb7)
  have HS7 := Aside0.mk (And.intro (Kd.S_below HS6.out.1 hb7) (Kd.C_below HS6.out.2.2.1 hb7))
  have HSZ7 := Aside0.mk hsz7
  clear hblk7 hb7 hsz7 hw7 H10b HB6
  go_upto_region 14 with (first | (go_at_call 8; refine (HTH.out _ HB7.out.1).mono ?_; rintro e w8 ⟨A8, c8, rfl, hR8, hc8, hC8, hb8⟩; have HB8 := Aside0.mk (And.intro (below_step HB7.out.1 hb8) (blk_below HB7.out.2 hb8)); have HTB8 := Aside0.mk (blk_below HTB7.out hb8); have H108 := Aside0.mk (Kd.R_below H107.out hb8); have HS8 := Aside0.mk (And.intro (Kd.S_below HS7.out.1 hb8) (Kd.C_below HS7.out.2 hb8)); have HH8 := Aside0.mk (And.intro hR8 (And.intro hc8 hC8)); have hct8 := blk_cell HTB8.out 0; have HSZ8 := Aside0.mk hb8.size; clear hR8 hc8 hC8 hb8) | (go_at_call 9; refine (HIF.out _ A6 c6 A8 c8 HB8.out.1 HS8.out.2 HS6.out.2.1 HH8.out.2.2 HH8.out.2.1).mono ?_; rintro e w9 ⟨r9, A9, c9, rfl, hF9, hR9, hb9⟩; obtain rfl := fired_unique HF.out.1 hF9; have HB9 := Aside0.mk (And.intro (below_step HB8.out.1 hb9) (blk_below HB8.out.2 hb9)); have HTB9 := Aside0.mk (blk_below HTB8.out hb9); have H109 := Aside0.mk (Kd.R_below H108.out hb9); have HS9 := Aside0.mk (And.intro (Kd.S_below HS8.out.1 hb9) (Kd.C_below HS8.out.2 hb9)); have HH9 := Aside0.mk (And.intro (Kd.R_below HH8.out.1 hb9) (Kd.C_below HH8.out.2.2 hb9)); have H139 := Aside0.mk hR9; have HSZ9 := Aside0.mk hb9.size; clear hF9 hR9 hb9))
  clear hct8
  obtain ⟨St, hSt⟩ : ∃ St : World → Prop, St = fun W => (Below w.heap.size w W ∧ W.heap[w.heap.size]? = some (Obj.cells #[.slice A xs.length c] 24 (0, 0)) ∧ W.heap[w6.heap.size]? = some (Obj.cells #[.slice A6 cp.length c6] 32 (0, 0)) ∧ Kd.R (Kd.int .i64) 3 W w.heap.size (Iv w4.heap.size w5.heap.size) (.slice A5 r.length c5) r ∧ Kd.S k52 52 W w.heap.size (Iv w5.heap.size w6.heap.size) (.slice A6 cp.length c6) cp ∧ Kd.C k52 W A6 cp.length cp ∧ Kd.R k53 53 W w.heap.size (Iv w7.heap.size w8.heap.size) (.slice A8 hp.length c8) hp ∧ Kd.C k53 W A8 hp.length hp ∧ Kd.R (Kd.int .i64) 3 W w.heap.size (Iv w8.heap.size w9.heap.size) (.slice A9 r.length c9) r ∧ w9.heap.size ≤ W.heap.size) := ⟨_, rfl⟩
  have HST := Aside0.mk hSt
  have HST9 := Aside0.mk (show St w9 by rw [hSt]; exact ⟨HB9.out.1, HB9.out.2, HTB9.out, H109.out, HS9.out.1, HS9.out.2, HH9.out.1, HH9.out.2, H139.out, Nat.le_refl _⟩)
  have HSTEP := Aside0.mk (show ∀ W W', Below W.heap.size W W' → St W → St W' from fun W W' hb h => by
    rw [hSt] at h ⊢
    obtain ⟨h1, h2, h3, h4, h5, h6, h7, h8, h9, h10⟩ := h
    exact ⟨below_step h1 hb, blk_below h2 hb, blk_below h3 hb, Kd.R_below h4 hb, Kd.S_below h5 hb, Kd.C_below h6 hb, Kd.R_below h7 hb, Kd.C_below h8 hb, Kd.R_below h9 hb, Nat.le_trans h10 hb.size⟩)
  have HIS := Aside0.mk (show ∀ W, St W → (Below w.heap.size w W ∧ W.heap[w.heap.size]? = some (Obj.cells #[.slice A xs.length c] 24 (0, 0)) ∧ W.heap[w6.heap.size]? = some (Obj.cells #[.slice A6 cp.length c6] 32 (0, 0)) ∧ Kd.R (Kd.int .i64) 3 W w.heap.size (Iv w4.heap.size w5.heap.size) (.slice A5 r.length c5) r ∧ Kd.S k52 52 W w.heap.size (Iv w5.heap.size w6.heap.size) (.slice A6 cp.length c6) cp ∧ Kd.C k52 W A6 cp.length cp ∧ Kd.R k53 53 W w.heap.size (Iv w7.heap.size w8.heap.size) (.slice A8 hp.length c8) hp ∧ Kd.C k53 W A8 hp.length hp ∧ Kd.R (Kd.int .i64) 3 W w.heap.size (Iv w8.heap.size w9.heap.size) (.slice A9 r.length c9) r ∧ w9.heap.size ≤ W.heap.size) from fun W h => by rw [hSt] at h; exact h)
  clear hSt
  go_upto_region 16 with (first | (go_at_call 10; refine (HQ.out r _ A9 c9 A5 c5 HF.out.2 (Kd.R_reads' H139.out).2.2 (Kd.R_reads' H139.out).2.1 (Kd.R_reads' H109.out).2.2 (Kd.R_reads' H109.out).2.1).mono ?_; rintro e w10 ⟨rfl, hb10⟩; have H10 := Aside0.mk (HSTEP.out _ _ hb10 HST9.out); have hct10 := blk_cell (HIS.out _ H10.out).2.1 0; have hti10 := blk_cell (HIS.out _ H10.out).2.2.1 0; clear hb10))
  (try simp only [Act.put, List.setIfInBounds_toArray, List.set_cons_zero, List.set_cons_succ])
  go_cut [55] (fun v55 wc => v55 = .bool false ∧ Aside0 (St wc))
  case first =>
    go_region_with (first | (go_at_call 7; refine (HTO.out _ (HIS.out _ H10.out).1.drew).mono ?_; rintro e w11 ⟨A11, c11, rfl, hS11, hc11, hC11, hb11⟩; have H11 := Aside0.mk (HSTEP.out _ _ (below_step (Below.refl _ w10).drew hb11) H10.out); have hti11 := blk_cell (HIS.out _ H11.out).2.2.1 0; have HT11 := Aside0.mk (And.intro hc11 hC11); clear hS11 hc11 hC11 hb11) | (go_at_call 11; refine (HET.out _ A6 c6 A11 c11 (HIS.out _ H11.out).2.2.2.2.2.1 HS6.out.2.1 HT11.out.2 HT11.out.1).mono ?_; rintro e w12 ⟨rfl, hb12⟩; have H12 := Aside0.mk (HSTEP.out _ _ hb12 H11.out); clear hb12))
    all_goals
      go_wp2
      go_meet
      case rel => exact ⟨rfl, H12⟩
  case rest =>
    obtain ⟨rfl, H13⟩ := hcut
    clear hct10 hti10
    go_upto_region 21 with (first | (go_at_call 8; refine (HTH.out _ (HIS.out _ H13.out).1).mono ?_; rintro e w14 ⟨A14, c14, rfl, hR14, hc14, hC14, hb14⟩; have H14 := Aside0.mk (HSTEP.out _ _ hb14 H13.out); have HT14 := Aside0.mk (And.intro hc14 hC14); clear hR14 hc14 hC14 hb14) | (go_at_call 12; refine (HEH.out _ A8 c8 A14 c14 (HIS.out _ H14.out).2.2.2.2.2.2.2.1 HH8.out.2.1 HT14.out.2 HT14.out.1).mono ?_; rintro e w15 ⟨rfl, hb15⟩; have H15 := Aside0.mk (HSTEP.out _ _ hb15 H14.out); have hti15 := blk_cell (HIS.out _ H15.out).2.2.1 0; clear hb15))
    have hbx5 := blk_lt HB5.out.2
    have hz6 := HS6.out.2.2.2
    have hz7 := HSZ7.out
    have hz8 := HSZ8.out
    go_upto_region 22 with (first | (go_at_call 13; refine (markTree_calls (.slice A6 cp.length c6) cp 1 w w15 _ (HIS.out _ H15.out).1 (HIS.out _ H15.out).2.2.2.2.1 (by decide) HCOST.out).mono ?_; rintro e w16 ⟨m, rfl, hm1, hm2, hb16, hk16⟩; have h15 := HIS.out _ H15.out; have H16 := Aside0.mk (And.intro hb16 (And.intro ((hk16.2 _ (blk_lt h15.2.1) (fun hi => absurd hi.1 (by omega))).trans h15.2.1) (And.intro (Kd.R_kept h15.2.2.2.1 hk16 (fun k hk hi => absurd hi.1 (by have := hk.2; omega))) (And.intro (Kd.R_kept h15.2.2.2.2.2.2.1 hk16 (fun k hk hi => absurd hi.2 (by have := hk.1; omega))) (Kd.R_kept h15.2.2.2.2.2.2.2.2.1 hk16 (fun k hk hi => absurd hi.2 (by have := hk.1; omega))))))); clear h15 hb16 hk16))
    have hmb : 0 ≤ m ∧ m < 2 ^ 58 := by have := HCOST.out; omega
    obtain ⟨zs, hzs⟩ := markHandlerS_f hp m hmb.1 (by have := HLN.out.2.1; have := hmb.2; omega)
    obtain ⟨kz, hkz⟩ := hzs.some
    have HKZ := Aside0.mk hkz
    clear hzs hkz hti15
    go_upto_region 23 with (first | (go_at_call 14; refine (laws_markHandlerS.calls kz _ (.slice A8 hp.length c8) hp m _ zs w w16 H16.out.1 H16.out.2.2.2.1 HKZ.out).mono ?_; rintro e w17 ⟨rfl, _, hb17, hk17⟩; have h16 := H16.out; have H17 := Aside0.mk (And.intro hb17 (And.intro ((hk17.2 _ (blk_lt h16.2.1) (fun hi => absurd hi.1 (by omega))).trans h16.2.1) (And.intro (Kd.R_kept h16.2.2.1 hk17 (fun k hk hi => absurd hi.1 (by have := hk.2; have := HS6.out.2.2.2; omega))) (Kd.R_kept h16.2.2.2.2 hk17 (fun k hk hi => absurd hi.2 (by have := hk.1; omega)))))); clear h16 hb17 hk17))
    generalize hm4 : m + 4 * (hp.length : Int) = m4
    have hmd : decide (m4 < 0) = false := decide_eq_false (by have := hmb.1; omega)
    clear hm4 hm1 hm2 hmb hbx5 hz6 hz7 hz8
    go_upto_region 25 with (first | (go_at_call 10; refine (HQ.out r _ A9 c9 A5 c5 HF.out.2 (Kd.R_reads' H17.out.2.2.2).2.2 (Kd.R_reads' H17.out.2.2.2).2.1 (Kd.R_reads' H17.out.2.2.1).2.2 (Kd.R_reads' H17.out.2.2.1).2.1).mono ?_; rintro e w18 ⟨rfl, hb18⟩; have H18 := Aside0.mk (And.intro (below_step H17.out.1 hb18) (And.intro (blk_below H17.out.2.1 hb18) (And.intro (Kd.R_below H17.out.2.2.1 hb18) (Kd.R_below H17.out.2.2.2 hb18)))); clear hb18))
    have hq0 : decide (1 + (r.length : Int) < 0) = false := decide_eq_false (by omega)
    have hz8 := HSZ8.out
    have hbx5 := blk_lt HB5.out.2
    have hz6 := HS6.out.2.2.2
    have hz7 := HSZ7.out
    go_upto_region 27 with (first | (go_at_call 15; refine (HMI.out r _ (.slice A9 r.length c9) w18 HF.out.2 H18.out.1 H18.out.2.2.2).mono ?_; rintro e w19 ⟨rfl, hr19, hb19, hk19⟩; have h18 := H18.out; have H19 := Aside0.mk (And.intro hb19 (And.intro ((hk19.2 _ (blk_lt h18.2.1) (fun hi => absurd hi.1 (by omega))).trans h18.2.1) (And.intro (Kd.R_kept h18.2.2.1 hk19 (fun k hk hi => absurd hi.1 (by have := hk.2; omega))) hr19))); clear h18 hr19 hb19 hk19))
    clear hz8 hbx5 hz6 hz7
    have hct19 := blk_cell H19.out.2.1 0
    go_upto_region 33 with (first | (go_at_call 16; refine (HHI.out r A9 c9 w19 HF.out.2 H19.out.2.2.2).mono ?_; rintro e w20 ⟨rfl, hb20⟩; have H20 := Aside0.mk (And.intro (below_step H19.out.1 hb20) (And.intro (blk_below H19.out.2.1 hb20) (And.intro (Kd.R_below H19.out.2.2.1 hb20) (Kd.R_below H19.out.2.2.2 hb20)))); have hct20 := blk_cell H20.out.2.1 0; clear hb20))
    clear hct19
    go_upto_region 34 with (first | (go_at_call 7; refine (HTO.out _ H20.out.1).mono ?_; rintro e w21 ⟨A21, c21, rfl, hS21, hc21, hC21, hb21⟩; have H21 := Aside0.mk (And.intro (below_step H20.out.1 hb21) (And.intro (Kd.R_below H20.out.2.2.1 hb21) (Kd.R_below H20.out.2.2.2 hb21))); have HT21 := Aside0.mk (And.intro hc21 hC21); clear hS21 hc21 hC21 hb21) | (go_at_call 8; refine (HTH.out _ H21.out.1).mono ?_; rintro e w22 ⟨A22, c22, rfl, hR22, hc22, hC22, hb22⟩; have H22 := Aside0.mk (And.intro (below_step H21.out.1 hb22) (And.intro (Kd.R_below H21.out.2.1 hb22) (Kd.R_below H21.out.2.2 hb22))); have HT22 := Aside0.mk (And.intro hc22 (And.intro hC22 (Kd.C_below HT21.out.2 hb22))); clear hR22 hc22 hC22 hb22) | (go_at_call 9; refine (HIF.out _ A21 c21 A22 c22 H22.out.1 HT22.out.2.2 HT21.out.1 HT22.out.2.1 HT22.out.1).mono ?_; rintro e w23 ⟨r23, A23, c23, rfl, hF23, hR23, hb23⟩; obtain rfl := fired_unique HF.out.1 hF23; have H23 := Aside0.mk (And.intro (below_step H22.out.1 hb23) (And.intro (Kd.R_below H22.out.2.1 hb23) (And.intro (Kd.R_below H22.out.2.2 hb23) hR23))); clear hF23 hR23 hb23))
    clear hct20
    go_wp2_with (first | (go_at_call 10; refine (HQ.out r _ A23 c23 A5 c5 HF.out.2 (Kd.R_reads' H23.out.2.2.2).2.2 (Kd.R_reads' H23.out.2.2.2).2.1 (Kd.R_reads' H23.out.2.1).2.2 (Kd.R_reads' H23.out.2.1).2.1).mono ?_; rintro e w24 ⟨rfl, hb24⟩; have H24 := Aside0.mk (And.intro (below_step H23.out.1 hb24) (Kd.R_below H23.out.2.2.1 hb24)); clear hb24) | (go_at_call 16; refine (HHI.out r A9 c9 w24 HF.out.2 H24.out.2).mono ?_; rintro e w25 ⟨rfl, hb25⟩; have H25 := Aside0.mk (below_step H24.out.1 hb25); clear hb25))
    go_ret
    exact ⟨rfl, H25.out⟩
end Go.Proofs.Ytcjaakbmabhmdaa.Impl
