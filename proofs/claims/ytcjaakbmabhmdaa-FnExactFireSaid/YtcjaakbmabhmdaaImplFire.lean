/- impl.Fire: what it answers. -/
import Derived.Test.YtcjaakbmabhmdaaStep
import Derived.Test.YtcjaakbmabhmdaaFireLoop
import Derived.Sort.LoopGhostIn
import Derived.Sort.CutIn
import Derived.Maps.OwnIn
namespace Go.Proofs.Ytcjaakbmabhmdaa.Impl
open Go.RowKit Go.Shelf Go.Proofs.YtcjaakbmabhmdaaW.PrintWords Go.Proofs.YtcjaakbmabhmdaaW.PrintLast Go.Proofs.YtcjaakbmabhmdaaW.PrintMore Go.Proofs.Ytcjaakbmabhmdaa.PFnExactFire Go.Proofs.Ytcjaakbmabhmdaa.MapLib Go.Proofs.Ytcjaakbmabhmdaa.FireSpec Go.Proofs.Ytcjaakbmabhmdaa.Tr
set_option linter.unusedVariables false
set_option linter.unusedSimpArgs false
attribute [local go_sem] Oper.semAt_some

/-- The twig around: none for the page. -/
def upA (bs : List Nat) : List Nat → Option Addr
  | [] => none
  | P :: _ => some ⟨bs.getD P 0, 0, none⟩
def upOf (bs : List Nat) (L : List Nat) : Value := .pointer (upA bs L)
theorem Grown.up {ns : List S52} {w0 w : World} {base : Nat} {bs : List Nat} {lv : Value} {KV : Nat → Value} (h : Grown ns w0 w base bs lv KV) {x : Nat} {L : List Nat} (hx : x < ns.length) (ha : Anc (kids ns) x L) :
    ∃ kv pl, Twig w0 w (bs.getD x 0) (ns.getD x z52) kv (upOf bs L) pl := by
  cases ha with
  | root => exact ⟨_, _, h.root⟩
  | kid hK hP =>
    obtain ⟨up, pl, ht, hp⟩ := h.laid.twig x (Nat.zero_le _) hx
    obtain ⟨rfl, _⟩ := hp _ _ (Nat.zero_le _) hK
    exact ⟨_, _, ht⟩
theorem anc_of {ns : List S52} (h : treeOk ns = true) {j : Nat} (hj : j < ns.length) : ∃ L, Anc (kids ns) j L := by
  obtain ⟨p1, p2, p3, p4, p5⟩ := treeOk_parts h
  obtain ⟨res, _, _, hp⟩ := pars_f ns p2 p3 p5 p4
  obtain ⟨L, hL, _⟩ := anc_exists hp j hj
  exact ⟨L, hL⟩
theorem Anc.tail {ks : List Nat} {j : Nat} {L : List Nat} (h : Anc ks j L) : ∀ (L1 : List Nat) (P : Nat) (L2 : List Nat), L = L1 ++ P :: L2 → Anc ks P L2 ∧ P < j := by
  induction h with
  | root => intro L1 P L2 e; cases L1 <;> cases e
  | kid hk ha ih =>
    intro L1 P L2 e
    cases L1 with
    | nil => injection e with e1 e2; subst e1; subst e2; exact ⟨ha, hk.lt⟩
    | cons x L1 =>
      injection e with e1 e2
      obtain ⟨h1, h2⟩ := ih L1 P L2 e2
      exact ⟨h1, by have := hk.lt; omega⟩
theorem wpIn_append_int {F : Fence} {n : Nat} {ops : Array Oper} {rest : List Oper} {o : Oper} {a : Act} {Q : Exit → Act → World → Prop} {W : World} (base : Nat) (hgd : o.guard = none) (s x : Operand)
    (ho : o.op = .call { callee := .builtin .append, args := #[s, x], argTypes := #[28, 28] }) (v : Value) (l : List Int) (y : Int) (g : Nat) (hs : a.eval s = v) (hx : a.eval x = .slice (some ⟨g, 0, none⟩) 1 1)
    (HO : IntRow W base v l) (hg : W.cell? ⟨g, 0, none⟩ = some (.int .i64 y)) (hbase : base ≤ W.heap.size) (hl : l.length ≤ 1000000000)
    (h : ∀ v1 w1, IntRow w1 base v1 (l ++ [y]) → W.grownBy w1 v.ownBlock → (v1.ownBlock = v.ownBlock ∨ ∃ b, v1.ownBlock = some b ∧ W.heap.size ≤ b) → wpListIn F n Try.prog ops Q rest (a.put o.dst v1) w1) :
    wpListIn F n Try.prog ops Q (o :: rest) a W := by
  obtain ⟨i0, hi, hz0, hz1, hz2⟩ := info_parts info3
  refine wpListIn_append_own_at (w := W) hgd s x 28 ho base 3 i0 (.int .i64 0) 1 8 Try.underlying28 hi hz0 hz1 hz2 rfl (by decide) v l.length (encs (Value.int .i64) l) hs (Kd.own_of_R HO) ⟨g, 0, none⟩ 1 1 [.int .i64 y] hx rfl
    (fun j u hj => by
      match j, hj with
      | 0, hj => simp at hj; subst hj; rw [add_plain]; exact hg
      | j + 1, hj => simp at hj) (by simp [Value.oneCell']) (by unfold maxLen; omega) (by omega) hbase ?_
  intro v1 w1 hown hg1 _ hm
  refine h v1 w1 (Kd.R_of_own (enc := Value.int .i64) (h1 := fun _ => rfl) (by simpa [encs] using hown) (fun _ _ => trivial)) hg1 ?_
  rcases hm with e | e
  · exact .inl e
  · exact .inr ⟨_, e, Nat.le_refl _⟩
theorem backward_calls (A : Option Addr) (n c : Nat) (w : World) : Calls Try.prog 27 #[.slice A n c] w fun e w' => e = .returned (.func (.func 42) #[] #[.pointer (some ⟨w.heap.size, 0, none⟩)]) ∧ w' = w.alloc (.cells #[.slice A n c] 28) := by
  go_enter Try.func27, Try.ntmps27
  go_wp2
  go_ret
  exact ⟨rfl, rfl⟩
set_option maxHeartbeats 4000000 in
set_option maxRecDepth 100000 in
theorem fire_badTree (A : Option Addr) (c : Nat) (ns : List S52) (id : Int) (kind : ByteArray) (Ah : Option Addr) (ch : Nat) (hs : List S53) (w : World) (hr : Kd.C k52 w A ns.length ns) (hc : ns.length ≤ c) (hwf : ∀ n ∈ ns, n.f5 ≤ 9223372036854775807)
    (hbad : treeOk ns = false) : Calls Try.prog 9 #[.agg #[.slice A ns.length c], .int .i64 id, .string kind, .slice Ah hs.length ch] w (FireEnds ns id kind hs w) := by
  have hut := Try.underlying32
  have HR := Aside0.mk (And.intro hr (And.intro hc hwf))
  have HBAD := Aside0.mk hbad
  clear hr hc hwf hbad
  refine (callsIn_wide (n := 6)).1 ?_
  refine callsIn_of_wp_marks Try.func9 rfl trivial ?_ rfl
  simp only [Try.ntmps9, List.size_toArray, List.length_cons, List.length_nil, Nat.reduceAdd, Nat.reduceSub, Array.replicate_succ, Array.replicate_zero, List.push_toArray, List.append_toArray, List.nil_append, List.cons_append]
  gi_wp2_with (first | (refine ⟨trivial, ?_⟩; gi_at_call 25; refine (callsIn_wide.2 (treeOk_calls A c ns _ (Kd.C_below HR.out.1 ((Below.refl _ w).alloc (Nat.le_refl _) _)) HR.out.2.1 HR.out.2.2)).mono ?_; rintro e w5 ⟨rfl, hb5⟩; have HB5 := Aside0.mk hb5; clear hb5; rw [treeOkI_eq, HBAD.out]))
  refine ⟨_, results_tmp rfl _ _ _, [], _, rfl, by unfold Fired; rw [HBAD.out]; simp, Kd.R_nil _ _ _ _ _, below_step ((Below.refl _ w).alloc (Nat.le_refl _) _) HB5.out⟩

set_option maxHeartbeats 4000000 in
set_option maxRecDepth 100000 in
theorem fire_goodTree (ad : Addr) (c : Nat) (ns : List S52) (id : Int) (kind : ByteArray) (Ah : Option Addr) (ch : Nat) (hs : List S53) (w : World) (hr : Kd.C k52 w (some ad) ns.length ns) (hc : ns.length ≤ c) (hwf : ∀ n ∈ ns, n.f5 ≤ 9223372036854775807)
    (hrh : Kd.C k53 w Ah hs.length hs) (hch : hs.length ≤ ch) (hlh : hs.length ≤ 9223372036854775807)
    (hok : treeOk ns = true) : Calls Try.prog 9 #[.agg #[.slice (some ad) ns.length c], .int .i64 id, .string kind, .slice Ah hs.length ch] w (FireEnds ns id kind hs w) := by
  have hut := Try.underlying32
  have huh := Try.underlying53
  have HR := Aside0.mk (And.intro hr (And.intro hc hwf))
  have HRH := Aside0.mk (And.intro hrh (And.intro hch hlh))
  have HOK := Aside0.mk hok
  clear hr hc hwf hok hrh hch
  refine (callsIn_wide (n := 6)).1 ?_
  refine callsIn_of_wp_marks Try.func9 rfl trivial ?_ rfl
  simp only [Try.ntmps9, List.size_toArray, List.length_cons, List.length_nil, Nat.reduceAdd, Nat.reduceSub, Array.replicate_succ, Array.replicate_zero, List.push_toArray, List.append_toArray, List.nil_append, List.cons_append]
  rcases Bool.eq_false_or_eq_true (decide ((hs.length : Int) > 1000)) with h10 | h10
  · have HBAD := Aside0.mk (show handsOk hs = false by unfold handsOk; rw [decide_eq_false (by simp at h10; omega)]; rfl)
    gi_wp2_with (first | (refine ⟨trivial, ?_⟩; gi_at_call 25; refine (callsIn_wide.2 (treeOk_calls (some ad) c ns _ (Kd.C_below HR.out.1 ((Below.refl _ w).alloc (Nat.le_refl _) _)) HR.out.2.1 HR.out.2.2)).mono ?_; rintro e w5 ⟨rfl, hb5⟩; have HB5 := Aside0.mk hb5; clear hb5; rw [treeOkI_eq, HOK.out]))
    refine ⟨_, results_tmp rfl _ _ _, [], _, rfl, by unfold Fired; rw [HBAD.out]; simp, Kd.R_nil _ _ _ _ _, below_step ((Below.refl _ w).alloc (Nat.le_refl _) _) HB5.out⟩
  have hln : (hs.length : Int) ≤ 1000 := by simp at h10; omega
  gi_wp2_with (first | (refine ⟨trivial, ?_⟩; gi_at_call 25; refine (callsIn_wide.2 (treeOk_calls (some ad) c ns _ (Kd.C_below HR.out.1 ((Below.refl _ w).alloc (Nat.le_refl _) _)) HR.out.2.1 HR.out.2.2)).mono ?_; rintro e w5 ⟨rfl, hb5⟩; have HB5 := Aside0.mk (And.intro (blk_below (blk_newest w (Obj.cells #[.slice (some ad) ns.length c] 32)) hb5) (below_step ((Below.refl _ w).alloc (Nat.le_refl _) _) hb5)); clear hb5; rw [treeOkI_eq, HOK.out]))
  clear h10 hlh
  gi_loopg [29] (hs.length + 1) (fun kq v29 wr => ∃ i : Nat, v29 = .int .i64 i ∧ Aside0 (i + kq = hs.length + 1 ∧ i ≤ hs.length ∧ ∀ h ∈ hs.take i, 0 ≤ h.f3 ∧ h.f3 ≤ 2) ∧ Aside0 (Below w5.heap.size w5 wr))
  case atStart => exact ⟨0, rfl, ⟨by omega, by omega, by simp⟩, ⟨Below.refl _ _⟩⟩
  case round =>
    obtain ⟨i, rfl, HI, HBR⟩ := hrel
    have hbw : Below w.heap.size w wr := below_step HB5.out.2 HBR.out
    have hcx := Kd.C_below HRH.out.1 hbw
    have HBW := Aside0.mk hbw
    by_cases hlt : (i : Int) < hs.length
    · obtain ⟨ah, rfl, hx0, hx1, hx2, hx3⟩ := at_T53 hcx (i : Int) (by omega) hlt
      have hd : decide ((i : Int) < (hs.length : Int)) = true := decide_eq_true hlt
      have hd2 : decide (i < hs.length) = true := decide_eq_true (by omega)
      obtain ⟨h, hh⟩ : ∃ h, rd_T53 hs (i : Int) = h := ⟨_, rfl⟩
      have hat : hs[i]? = some h := by
        have hi : i < hs.length := by omega
        rw [← hh]
        simp [rd_T53, hi]
      rw [Int.toNat_natCast] at hx0 hx1 hx2 hx3
      rw [hh] at hx0 hx1 hx2 hx3
      have HAT := Aside0.mk hat
      clear hcx hh hat hbw
      have hbad : ¬ (0 ≤ h.f3 ∧ h.f3 ≤ 2) → handsOk hs = false := fun hb => by
        unfold handsOk
        rw [Bool.and_eq_false_iff]
        right
        rw [List.all_eq_false]
        exact ⟨h, List.mem_of_getElem? HAT.out, by simpa using hb⟩
      have HBAD := Aside0.mk hbad
      have HNB := Aside0.mk (blk_newest wr (Obj.cells #[Value.int IntKind.i64 h.f0, Value.string h.f1, Value.bool h.f2, Value.int IntKind.i64 h.f3] 53))
      have hal : Below wr.heap.size wr (wr.alloc (Obj.cells #[Value.int IntKind.i64 h.f0, Value.string h.f1, Value.bool h.f2, Value.int IntKind.i64 h.f3] 53)) := (Below.refl _ _).alloc (Nat.le_refl _) _
      have HAL := Aside0.mk hal
      clear hbad hal
      by_cases c1 : h.f3 < 0
      · have d1 : decide (h.f3 < 0) = true := decide_eq_true c1
        have HF := Aside0.mk (HBAD.out (by omega))
        clear HBAD
        gi_wp2
        refine ⟨_, results_tmp rfl _ _ _, [], _, rfl, by unfold Fired; rw [HF.out]; simp, Kd.R_nil _ _ _ _ _, below_step HBW.out HAL.out⟩
      · have d1 : decide (h.f3 < 0) = false := decide_eq_false c1
        by_cases c2 : h.f3 > 2
        · have d2 : decide (h.f3 > 2) = true := decide_eq_true c2
          have d3 : decide (2 < h.f3) = true := decide_eq_true c2
          have HF := Aside0.mk (HBAD.out (by omega))
          clear HBAD
          gi_wp2
          refine ⟨_, results_tmp rfl _ _ _, [], _, rfl, by unfold Fired; rw [HF.out]; simp, Kd.R_nil _ _ _ _ _, below_step HBW.out HAL.out⟩
        · have d2 : decide (h.f3 > 2) = false := decide_eq_false c2
          have d3 : decide (2 < h.f3) = false := decide_eq_false c2
          have HIN := Aside0.mk (show (i + 1 + (gk - 1) = hs.length + 1 ∧ i + 1 ≤ hs.length ∧ ∀ x ∈ hs.take (i + 1), 0 ≤ x.f3 ∧ x.f3 ≤ 2) ∧ 0 < gk by
            have := HI.out
            refine ⟨⟨by omega, by omega, fun x hx => ?_⟩, by omega⟩
            rw [List.take_add_one, HAT.out] at hx
            rcases List.mem_append.1 hx with hx | hx
            · exact this.2.2 x hx
            · simp at hx
              subst hx
              omega)
          clear HBAD c1 c2
          gi_wp2
          have hii : (i : Int) + 1 = ((i + 1 : Nat) : Int) := by omega
          gi_roundg (gk - 1)
          case measure => have := HIN.out; omega
          case rel => exact ⟨i + 1, by rw [hii], ⟨HIN.out.1⟩, ⟨below_step HBR.out HAL.out⟩⟩
    · have hd : decide ((i : Int) < (hs.length : Int)) = false := decide_eq_false hlt
      have hd2 : decide (i < hs.length) = false := decide_eq_false (by omega)
      have HHO := Aside0.mk (show handsOk hs = true by
        have := HI.out
        have e : i = hs.length := by omega
        subst e
        unfold handsOk
        rw [decide_eq_true (by omega), Bool.true_and, List.all_eq_true]
        intro x hx
        rw [List.take_length] at this
        simpa using this.2.2 x hx)
      obtain ⟨p1, p2, p3, p4, p5⟩ := treeOk_parts HOK.out
      have HP := Aside0.mk (And.intro p3 (And.intro p2 (And.intro p4 (treeOk_nodup HOK.out))))
      have hct := blk_cell (blk_below HB5.out.1 HBR.out) 0
      clear hcx hlt hbw HI p1 p2 p3 p4 p5
      cases hpl : place ns id with
      | none =>
        have HPL := Aside0.mk hpl
        clear hpl
        gi_wp2_with (first | (refine ⟨trivial, ?_⟩; gi_at_call 26; refine (callsIn_wide.2 (newGarden_calls ns ad c _ (Kd.C_below HR.out.1 HBW.out) HR.out.2.1 HP.out.1 HP.out.2.1 HP.out.2.2.1 HP.out.2.2.2)).mono ?_; rintro e w6 ⟨g, bs, KV, wg, rfl, hb6, hbg, hG⟩; obtain ⟨mb, hg1, hg2, hg3⟩ := hG.blk; have hcg := blk_cell hg1 1; have hlk := run_lookup keyI Try.underlying57 (z := .pointer none) (Try.zeroValue56 w6) hg3 id; rw [gents_no (place_none HPL.out)] at hlk; simp only [Option.getD_none] at hlk; have HB6 := Aside0.mk hb6; clear hb6 hbg hG hg1 hg2 hg3))
        refine ⟨_, results_tmp rfl _ _ _, [], _, rfl, by unfold Fired; rw [HPL.out]; simp, Kd.R_nil _ _ _ _ _, below_step HBW.out HB6.out⟩
      | some j =>
        have HPL := Aside0.mk hpl
        clear hpl
        gi_upto_region 14 with (first | (refine ⟨trivial, ?_⟩; gi_at_call 26; refine (callsIn_wide.2 (newGarden_calls ns ad c _ (Kd.C_below HR.out.1 HBW.out) HR.out.2.1 HP.out.1 HP.out.2.1 HP.out.2.2.1 HP.out.2.2.2)).mono ?_; rintro e w6 ⟨g, bs, KV, wg, rfl, hb6, hbg, hG⟩; obtain ⟨mb, hg1, hg2, hg3⟩ := hG.blk; have hcg := blk_cell hg1 1; have hlk := run_lookup keyI Try.underlying57 (z := .pointer none) (Try.zeroValue56 w6) hg3 id; rw [← (place_some HPL.out).2, gents_at hG.grown.choose_spec.len HP.out.2.2.2 (place_some HPL.out).1, (place_some HPL.out).2] at hlk; simp only [Option.getD_some, ptr] at hlk; have HB6 := Aside0.mk hb6; have HG6 := Aside0.mk hG.grown; clear hb6 hbg hG hg1 hg2 hg3))
        generalize hw7 : World.alloc _ _ = w7
        have hw7' : Below w6.heap.size w6 w7 ∧ w7.heap[w6.heap.size]? = some (.cells #[.string kind, .slice Ah hs.length ch, .slice none 0 0, .bool false] 64 (0, 0)) ∧ w7.heap[w6.heap.size + 1]? = some (.cells #[.pointer (some ⟨w6.heap.size, 0, none⟩)] 62 (0, 0)) ∧ IntRow w7 w.heap.size (.slice (some ⟨w6.heap.size + 1 + 1, 0, none⟩) 0 0) [] ∧ w7.heap[w6.heap.size + 1 + 1]? = some (.cells #[] 3 (0, 0)) := by
          have hsz := (below_step HBW.out HB6.out).size
          have b1 : Below w6.heap.size w6 (w6.alloc (Obj.cells #[.string kind, .slice Ah hs.length ch, .slice none 0 0, .bool false] 64)) := (Below.refl _ _).alloc (Nat.le_refl _) _
          have b2 := (Below.refl (w6.alloc (Obj.cells #[.string kind, .slice Ah hs.length ch, .slice none 0 0, .bool false] 64)).heap.size _).alloc (Nat.le_refl _) (Obj.cells #[.pointer (some ⟨w6.heap.size, 0, none⟩)] 62)
          have b3 := (Below.refl ((w6.alloc (Obj.cells #[.string kind, .slice Ah hs.length ch, .slice none 0 0, .bool false] 64)).alloc (Obj.cells #[.pointer (some ⟨w6.heap.size, 0, none⟩)] 62)).heap.size _).alloc (Nat.le_refl _) (Obj.cells #[] 3)
          have h1 := blk_newest w6 (Obj.cells #[.string kind, .slice Ah hs.length ch, .slice none 0 0, .bool false] 64)
          have h2 := blk_newest (w6.alloc (Obj.cells #[.string kind, .slice Ah hs.length ch, .slice none 0 0, .bool false] 64)) (Obj.cells #[.pointer (some ⟨w6.heap.size, 0, none⟩)] 62)
          have h4 := blk_newest ((w6.alloc (Obj.cells #[.string kind, .slice Ah hs.length ch, .slice none 0 0, .bool false] 64)).alloc (Obj.cells #[.pointer (some ⟨w6.heap.size, 0, none⟩)] 62)) (Obj.cells #[] 3)
          have h3 := own_lit ((w6.alloc (Obj.cells #[.string kind, .slice Ah hs.length ch, .slice none 0 0, .bool false] 64)).alloc (Obj.cells #[.pointer (some ⟨w6.heap.size, 0, none⟩)] 62)) w.heap.size 3 .i64 [] (by simp; omega) (by simp)
          rw [← hw7]
          refine ⟨below_step b1 (below_step b2 b3), blk_below (blk_below h1 b2) b3, blk_below (by simpa using h2) b3, ?_, by simpa using h4⟩
          exact Kd.R_of_own (enc := Value.int .i64) (h1 := fun _ => rfl) (by simpa [nums, encs] using h3) (fun _ _ => trivial)
        have HW7 := Aside0.mk hw7'
        obtain ⟨L, hL⟩ := anc_of HOK.out (place_some HPL.out).1
        have HL := Aside0.mk hL
        obtain ⟨lvx, hgx⟩ := HG6.out
        have hgx7 := hgx.below hw7'.1
        obtain ⟨kvj, plj, Aj, cj, _, _, htw⟩ := hgx7.up (place_some HPL.out).1 hL
        have HG7 := Aside0.mk hgx7
        have HLL := Aside0.mk (show L.length ≤ 4000 by have := hL.length; have := (place_some HPL.out).1; have := HP.out.2.1; omega)
        rw [List.getD_eq_getElem?_getD] at htw
        have hcj : w7.cell? ⟨bs[j]?.getD 0, 7, none⟩ = some (.pointer (upA bs L)) := blk_cell htw 7
        clear hw7 hw7' hL hgx hgx7 htw HG6 hlk hcg hct
        gi_upto_region 15 with (fail)
        clear hcj
        have HPA := Aside0.mk (show PathAt w w7 w7 (w6.heap.size + 1 + 1) (.slice (some ⟨w6.heap.size + 1 + 1, 0, none⟩) 0 0) [] from ⟨HW7.out.2.2.2.1, Kept.refl _ _, .inl rfl, below_step (below_step HBW.out HB6.out) HW7.out.1⟩)
        gi_loopg [13, 14] (L.length + 1) (fun kq v13 v14 wr => ∃ (L1 L2 : List Nat) (q : Option Addr), v14 = .pointer q ∧ Aside0 (L2.length + 1 = kq ∧ L = L1 ++ L2 ∧ q = upA bs L2) ∧ Aside0 (PathAt w w7 wr (w6.heap.size + 1 + 1) v13 (idsOf ns L1)))
        case atStart => exact ⟨[], L, _, rfl, ⟨rfl, rfl, rfl⟩, HPA⟩
        case round =>
          obtain ⟨L1, L2, q, rfl, HQ, HPT⟩ := hrel
          cases L2 with
          | nil =>
            obtain rfl : q = none := HQ.out.2.2
            have hL1 : L1 = L := by have := HQ.out.2.1; simpa using this.symm
            subst hL1
            obtain ⟨A9, c9, e9⟩ := Kd.R_slice HPT.out.row
            subst e9
            gi_wp2_with (first | (refine ⟨trivial, ?_⟩; gi_at_call 27; refine (callsIn_wide.2 (backward_calls A9 (idsOf ns L1).length c9 wr)).mono ?_; rintro e wB ⟨rfl, hwB⟩; subst hwB))
            generalize hwB : World.alloc wr _ = wB
            have hbx : wB.cell? ⟨wr.heap.size, 0, none⟩ = some (.slice A9 (idsOf ns L1).length c9) := by rw [← hwB]; exact cell_newest _ _ _ _ 0
            have hPB : PathAt w w7 wB (w6.heap.size + 1 + 1) (.slice A9 (idsOf ns L1).length c9) (idsOf ns L1) := by rw [← hwB]; exact HPT.out.alloc _
            have hszB : wB.heap.size = wr.heap.size + 1 := by rw [← hwB]; simp
            have hszr := HPT.out.kept.1
            have hfbB : wB.heap[w6.heap.size]? = some (.cells #[.string kind, .slice Ah hs.length ch, .slice none 0 0, .bool false] 64 (0, 0)) := (hPB.kept.2 _ (blk_lt HW7.out.2.1) (by omega)).trans HW7.out.2.1
            have hpvB : wB.heap[w6.heap.size + 1]? = some (.cells #[.pointer (some ⟨w6.heap.size, 0, none⟩)] 62 (0, 0)) := (hPB.kept.2 _ (blk_lt HW7.out.2.2.1) (by omega)).trans HW7.out.2.2.1
            have hlen : (idsOf ns L1).length ≤ 4000 := by have := HLL.out; simpa [idsOf] using this
            generalize hzs : idsOf ns L1 = zs at *
            obtain ⟨b, hA, hcs, hbB, hbne⟩ : ∃ b, (zs ≠ [] → A9 = some ⟨b, 0, none⟩) ∧ (∀ j, j < zs.length → wB.cell? ⟨b, j, none⟩ = some (.int .i64 (zs[j]?.getD 0))) ∧ b < wB.heap.size ∧ b ≠ w6.heap.size := by
              cases zs with
              | nil => exact ⟨wr.heap.size, fun h => absurd rfl h, fun j hj => by simp at hj, by omega, by have := blk_lt HW7.out.2.1; omega⟩
              | cons z zr =>
                have hrow := Kd.own_of_R hPB.row
                obtain ⟨gz, cz, ez, _, _⟩ := hrow.form (by simp)
                injection ez with ez _ _
                subst ez
                refine ⟨gz, fun _ => rfl, fun j hj => ?_, (introw_base hPB.row gz rfl).2, fun e => introw_ne hPB.row hfbB (by decide) (by rw [← e]; rfl)⟩
                have hr2 : wB.ownsRow w.heap.size 3 1 (.slice (some ⟨gz, 0, none⟩) (z :: zr).length c9) (z :: zr).length (encs (Value.int .i64) (z :: zr)) := by simpa using hrow
                have := (own_at_of (d := 0) (enc := Value.int .i64) hr2 (j : Int) (by omega) (by exact_mod_cast hj)).1
                simpa [rdOf] using this
            have hS0 : StepAt w wB wB w.heap.size w6.heap.size Ah ch hs kind (.slice none 0 0) (.slice none 0 0) [] false := ⟨hfbB, Kd.R_nil _ _ _ _ _, hPB.below, Kept.refl _ _, .inl rfl⟩
            have HS0 := Aside0.mk hS0
            have HPVB := Aside0.mk hpvB
            have HPB := Aside0.mk hPB
            have HBB := Aside0.mk (And.intro hbB (And.intro hbne (And.intro hlen hszB)))
            have hfw : w.heap.size ≤ w6.heap.size := (below_step HBW.out HB6.out).size
            have HFW := Aside0.mk hfw
            have HCS := Aside0.mk (show ∀ (W : World) (ov : Value) (o : List Int) (s : Bool), StepAt w wB W w.heap.size w6.heap.size Ah ch hs kind (.slice none 0 0) ov o s → W.cell? ⟨w6.heap.size + 1, 0, none⟩ = some (.pointer (some ⟨w6.heap.size, 0, none⟩)) ∧ ∀ j, j < zs.length → W.cell? ⟨b, j, none⟩ = some (.int .i64 (zs[j]?.getD 0)) from fun W ov o s hS => by
              have hk : ∀ k, k < wB.heap.size → k ≠ w6.heap.size → W.heap[k]? = wB.heap[k]? := fun k hk hne => hS.kept.2 k hk (by rintro (e | e) <;> first | exact hne e | exact absurd e (by simp [Value.ownBlock]))
              exact ⟨blk_cell ((hk _ (blk_lt HPVB.out) (by omega)).trans HPVB.out) 0, fun j hj => (cell_same (hk b HBB.out.1 HBB.out.2.1)).trans (hcs j hj)⟩)
            have HOUT := Aside0.mk (show ∀ fs : List (Hand → Bool), fs.length ≤ 8001 → (runL hs fs ([], false)).1.length ≤ 1099511627776 from fun fs hf => by
              have h1 := runL_length hs fs ([], false)
              have h2 : fs.length * hs.length ≤ 8001 * 1000 := Nat.mul_le_mul hf (by omega)
              simp only [List.length_nil] at h1
              omega)
            clear hS0 hpvB hPB hbB hbne hszB hfbB hwB hfw hszr
            apply wpIn_rangeFunc_ownF (F := Fence.wide) rfl (by omega) (gf := 42) (lb := #[.pointer (some ⟨wr.heap.size, 0, none⟩)]) rfl trivial (enters_of Try.func42 (by kernel_rfl) rfl)
              (back_stops Fence.wide 5 trivial rfl (by omega) wr.heap.size b c9 A9 zs hA (by omega) wB hbx hcs) (Kp := KeepsTwo b wr.heap.size) KeepsTwo.trans
              (fun W l o o' hl ho _ _ => ⟨World.putObj_heap_other (by have := HBB.out.1; omega), World.putObj_heap_other (by have := HBB.out.2.2.2; omega)⟩) (Below.refl _ _) (fun _ => rfl)
              (fun pre W => ∃ ov, StepAt w wB W w.heap.size w6.heap.size Ah ch hs kind (.slice none 0 0) ov (runL hs (pre.map (fun x : Nat × Int => fitsAt x.2 kind (·.f2))) ([], false)).1 (runL hs (pre.map (fun x : Nat × Int => fitsAt x.2 kind (·.f2))) ([], false)).2)
              (fun _ _ _ => False)
              (fun s X Y row hs hg hr => by obtain ⟨ov, hs⟩ := hs; exact ⟨ov, hs.turn hg hr (Nat.le_trans HS0.out.below.size (Nat.le_refl _))⟩)
              (fun _ _ _ _ _ hs _ _ => hs)
              ⟨_, HS0.out⟩
            case hassign =>
              intro l x W K hK
              gi_wp2
              exact hK
            case hbody =>
              rintro l pre x W ⟨ov, hS⟩ hlen
              have hpvW := (HCS.out W ov _ _ hS).1
              have hout := HOUT.out (pre.map (fun x : Nat × Int => fitsAt x.2 kind (·.f2))) (by rw [List.length_map]; have := HBB.out.2.2.1; omega)
              have HSW := Aside0.mk (And.intro hS (And.intro hout (show w.heap.size ≤ W.heap.size from hS.below.size)))
              clear hS hout hlen
              gi_wp2_with (first | (refine ⟨trivial, ?_⟩; gi_at_call 28; refine (CallsIn.inRound l (callsIn_wide.2 (step_calls Ah ch hs w w.heap.size w6.heap.size HRH.out.1 HRH.out.2.1 (by omega) (Nat.le_refl _) HFW.out x.2 kind 29 (fun h => h.f2) (.inl rfl) captures _ HSW.out.2.1 ov _ W HSW.out.2.2 HSW.out.1.start))).mono ?_; rintro e W2 ⟨rfl, ov2, hS2⟩; have HS2 := Aside0.mk hS2; clear hS2))
              have hK0 : ∀ k, k < wB.heap.size → k ≠ w6.heap.size → W2.heap[k]? = W.heap[k]? := fun k hk hne => HS2.out.kept.2 k (by have := HSW.out.1.kept.1; omega) (by
                rintro (e | e)
                · exact hne e
                · rcases HSW.out.1.moved with e' | ⟨k', e', hk'⟩
                  · rw [e'] at e; exact absurd e (by simp [Value.ownBlock])
                  · rw [e'] at e; injection e with e; omega)
              refine ⟨HS2.out.others ⟨_, HSW.out.1.blk⟩ HSW.out.1.row, ⟨hK0 b HBB.out.1 HBB.out.2.1, hK0 _ (by have := HBB.out.2.2.2; omega) (by have := blk_lt HW7.out.2.1; have := HPT.out.kept.1; omega)⟩, ov2, ?_⟩
              rw [List.map_append, List.map_cons, List.map_nil, runL_snoc]
              exact HSW.out.1.chain HS2.out
            case hdone =>
              rintro D ys W hD rfl ⟨ov, hS⟩ hK
              have hbl : (backs zs 0).map (fun x : Nat × Int => fitsAt x.2 kind (·.f2)) = zs.reverse.map (fun a => fitsAt a kind (·.f2)) := by
                rw [← backs_snd zs, List.map_map]; rfl
              rw [hbl] at hS
              have hpvW := (HCS.out W ov _ _ hS).1
              have hout := HOUT.out (zs.reverse.map (fun a => fitsAt a kind (·.f2))) (by rw [List.length_map, List.length_reverse]; have := HBB.out.2.2.1; omega)
              have HSW := Aside0.mk (And.intro hS (And.intro hout (And.intro (show w.heap.size ≤ W.heap.size from hS.below.size) hK)))
              clear hS hout hK hbl
              gi_upto_region 23 with (first | (refine ⟨trivial, ?_⟩; gi_at_call 28; refine (callsIn_wide.2 (step_calls Ah ch hs w w.heap.size w6.heap.size HRH.out.1 HRH.out.2.1 (by omega) (Nat.le_refl _) HFW.out id kind 30 (fun h => true) (.inr (.inl rfl)) always _ HSW.out.2.1 ov _ W HSW.out.2.2.1 HSW.out.1.start)).mono ?_; rintro e W2 ⟨rfl, ov2, hS2⟩; have HS2 := Aside0.mk hS2; clear hS2))
              have HR2 := Aside0.mk (show W2.heap[D]? = some (.deferred (some [])) from (HS2.out.others ⟨_, HSW.out.1.blk⟩ HSW.out.1.row).2 _ _ HSW.out.2.2.2 rfl)
              have HT2 := Aside0.mk (show StepAt w wB W2 w.heap.size w6.heap.size Ah ch hs kind (.slice none 0 0) ov2 (runL hs (zs.reverse.map (fun a => fitsAt a kind (·.f2)) ++ [fitsAt id kind (fun _ => true)]) ([], false)).1 (runL hs (zs.reverse.map (fun a => fitsAt a kind (·.f2)) ++ [fitsAt id kind (fun _ => true)]) ([], false)).2 by
                rw [runL_snoc]
                exact HSW.out.1.chain HS2.out)
              clear HS2 HSW hpvW
              gi_loopg [86] (zs.length + 1) (fun kq v86 wr => ∃ (m : Nat), v86 = .int .i64 m ∧ Aside0 (m + kq = zs.length + 1 ∧ m ≤ zs.length) ∧ Aside0 (wr.heap[D]? = some (.deferred (some []))) ∧ Aside0 (∃ ov, StepAt w wB wr w.heap.size w6.heap.size Ah ch hs kind (.slice none 0 0) ov (runL hs ((zs.reverse.map (fun a => fitsAt a kind (·.f2)) ++ [fitsAt id kind (fun _ => true)]) ++ (zs.take m).map (fun a => fitsAt a kind (fun h => !h.f2))) ([], false)).1 (runL hs ((zs.reverse.map (fun a => fitsAt a kind (·.f2)) ++ [fitsAt id kind (fun _ => true)]) ++ (zs.take m).map (fun a => fitsAt a kind (fun h => !h.f2))) ([], false)).2))
              case atStart => exact ⟨0, rfl, ⟨by omega, by omega⟩, HR2, ⟨⟨ov2, by simpa using HT2.out⟩⟩⟩
              case round =>
                obtain ⟨m, rfl, HM, HD, HX⟩ := hrel
                obtain ⟨ov3, hS⟩ := HX.out
                obtain ⟨hpvW, hcW⟩ := HCS.out _ ov3 _ _ hS
                have hm4 : (m : Int) ≤ 4000 := by have := HM.out; have := HBB.out; omega
                by_cases hlt : m < zs.length
                · have hAA := hA (by intro e; rw [e] at hlt; simp at hlt)
                  obtain ⟨z, hz⟩ : ∃ z, zs[m]?.getD 0 = z := ⟨_, rfl⟩
                  have hcm := hcW m hlt
                  rw [hz] at hcm
                  have HZ := Aside0.mk (show zs[m]? = some z by
                    rw [List.getElem?_eq_getElem hlt] at hz ⊢
                    rw [← hz]; rfl)
                  have hd : decide ((m : Int) < (zs.length : Int)) = true := decide_eq_true (by omega)
                  have hd2 : decide (m < zs.length) = true := decide_eq_true hlt
                  have hout := HOUT.out (((zs.reverse.map (fun a => fitsAt a kind (·.f2)) ++ [fitsAt id kind (fun _ => true)]) ++ (zs.take m).map (fun a => fitsAt a kind (fun h => !h.f2)))) (by simp only [List.length_append, List.length_map, List.length_reverse, List.length_take, List.length_cons, List.length_nil]; have := HBB.out.2.2.1; omega)
                  have HSW := Aside0.mk (And.intro hS (And.intro hout (show w.heap.size ≤ wr.heap.size from hS.below.size)))
                  have HIN := Aside0.mk (show m + 1 + (gk - 1) = zs.length + 1 ∧ m + 1 ≤ zs.length ∧ 0 < gk by have := HM.out; omega)
                  clear hS hout HX hcW hA hcs hz HM
                  subst hAA
                  gi_wp2_with (first | (refine ⟨trivial, ?_⟩; gi_at_call 28; refine (callsIn_wide.2 (step_calls Ah ch hs w w.heap.size w6.heap.size HRH.out.1 HRH.out.2.1 (by omega) (Nat.le_refl _) HFW.out z kind 31 (fun h => !h.f2) (.inr (.inr rfl)) bubbles _ HSW.out.2.1 ov3 _ _ HSW.out.2.2 HSW.out.1.start)).mono ?_; rintro e W3 ⟨rfl, ov4, hS3⟩; have HS3 := Aside0.mk hS3; clear hS3))
                  have hii : (m : Int) + 1 = ((m + 1 : Nat) : Int) := by omega
                  gi_roundg (gk - 1)
                  case measure => have := HIN.out; omega
                  case rel =>
                    refine ⟨m + 1, by rw [hii], ⟨HIN.out.1, HIN.out.2.1⟩, ⟨(HS3.out.others ⟨_, HSW.out.1.blk⟩ HSW.out.1.row).2 _ _ HD.out rfl⟩, ⟨⟨ov4, ?_⟩⟩⟩
                    rw [List.take_add_one, HZ.out, Option.toList_some, List.map_append, ← List.append_assoc, List.map_cons, List.map_nil, runL_snoc]
                    exact HSW.out.1.chain HS3.out
                · have hd : decide ((m : Int) < (zs.length : Int)) = false := decide_eq_false (by omega)
                  have hd2 : decide (m < zs.length) = false := decide_eq_false hlt
                  have hcf := blk_cell hS.blk 2
                  have hmz : m = zs.length := by have := HM.out; omega
                  subst hmz
                  rw [List.take_length] at hS
                  have HSW := Aside0.mk hS
                  clear hS HX hcW hA hcs hlt
                  gi_wp2
                  have hT := HSW.out.turn (w1 := wr.putObj D (.deferred none)) (grownBy_putObj' wr D (.deferred none)) (fun r e => by injection e with e; subst e; exact ⟨hD, _, HD.out, rfl⟩) HS0.out.below.size
                  refine ⟨by simp, .inl ⟨_, _, rfl, run_takeDeferred HD.out, ?_⟩⟩
                  refine ⟨_, results_tmp rfl _ _ _, _, ov3, rfl, ?_, hT.row, hT.below⟩
                  unfold Fired
                  rw [HOK.out, HHO.out, HPL.out]
                  simp only [and_self, if_true]
                  refine ⟨_, HL.out, ?_⟩
                  rw [runL_run, List.nil_append, hzs]
                  simp [stages]
            case hstop =>
              rintro D c pre W _ _ h _
              exact h.elim
          | cons P L2 =>
            obtain ⟨bp, hbp⟩ : ∃ bp, bs.getD P 0 = bp := ⟨_, rfl⟩
            obtain rfl : q = some ⟨bp, 0, none⟩ := by rw [HQ.out.2.2, ← hbp]; rfl
            obtain ⟨hP, hPj⟩ := Anc.tail HL.out L1 P L2 HQ.out.2.1
            obtain ⟨kvp, plp, htw⟩ := HG7.out.up (Nat.lt_trans hPj (place_some HPL.out).1) hP
            rw [hbp] at htw
            have htr := htw.keep (HPT.out.kept.2 bp htw.lt (htw.ne_typed HW7.out.2.2.2.2 (by decide)))
            obtain ⟨A9, c9, e9⟩ := Kd.R_slice HPT.out.row
            subst e9
            have HTR := Aside0.mk htr
            obtain ⟨Ap, cp, _, _, hblk⟩ := htr
            have hcid : wr.cell? ⟨bp, 0, none⟩ = some (.int .i64 (ns.getD P z52).f0) := blk_cell hblk 0
            generalize hpid : (ns.getD P z52).f0 = pid at hcid
            generalize hil : idsOf ns L1 = il at *
            have hill : il.length ≤ 4000 := by
              have := HLL.out
              have h2 := HQ.out.2.1
              rw [h2] at this
              rw [← hil]
              simp [idsOf] at this ⊢
              omega
            have HBK := Aside0.mk (show wr.heap[bp]? = some (.cells (twigCells (ns.getD P z52) Ap cp kvp (upOf bs L2) plp) 67 (0, 0)) from hblk)
            clear hblk htw hP hPj hbp
            have hsz9 := HPT.out.below.size
            gi_upto_region 16 with (first | (gi_at_builtin; refine wpIn_append_int w.heap.size rfl _ _ rfl (.slice A9 il.length c9) il pid wr.heap.size rfl rfl (Kd.R_below HPT.out.row ((Below.refl _ wr).alloc (Nat.le_refl _) _)) (cell_newest _ _ _ _ 0) (by simp; omega) (by omega) ?_; intro v8 w8 hr8 hg8 hm8; have hal8 : Below wr.heap.size wr (wr.alloc (Obj.cells #[.int .i64 pid] 3)) := (Below.refl _ _).alloc (Nat.le_refl _) _; have hup8 : w8.cell? ⟨bp, 7, none⟩ = some (.pointer (upA bs L2)) := blk_cell (blk_grown (blk_below HBK.out hal8) hg8 (introw_ne (Kd.R_below HPT.out.row hal8) (blk_below HBK.out hal8) (by decide))) 7; have HP8 := Aside0.mk ((HPT.out.alloc (Obj.cells #[.int .i64 pid] 3)).next hr8 hg8 hm8); clear hr8 hg8 hm8 hal8))
            have HQ8 := Aside0.mk (show L2.length + 1 = gk - 1 ∧ L = (L1 ++ [P]) ++ L2 ∧ 0 < gk by
              have := HQ.out
              refine ⟨by simp at this; omega, by rw [this.2.1]; simp, by simp at this; omega⟩)
            have hil8 : il ++ [pid] = idsOf ns (L1 ++ [P]) := by rw [← hil, ← hpid]; simp [idsOf]
            have HIL8 := Aside0.mk hil8
            clear hcid hil8 hil hpid
            gi_wp2
            gi_roundg (gk - 1)
            case measure => have := HQ8.out; omega
            case rel => exact ⟨L1 ++ [P], L2, _, rfl, ⟨HQ8.out.1, HQ8.out.2.1, rfl⟩, ⟨by rw [← HIL8.out]; exact HP8.out⟩⟩
theorem fire_calls (A : Option Addr) (c : Nat) (ns : List S52) (id : Int) (kind : ByteArray) (Ah : Option Addr) (ch : Nat) (hs : List S53) (w : World) (hr : Kd.C k52 w A ns.length ns) (hc : ns.length ≤ c) (hwf : ∀ n ∈ ns, n.f5 ≤ 9223372036854775807)
    (hrh : Kd.C k53 w Ah hs.length hs) (hch : hs.length ≤ ch) (hlh : hs.length ≤ 9223372036854775807) :
    Calls Try.prog 9 #[.agg #[.slice A ns.length c], .int .i64 id, .string kind, .slice Ah hs.length ch] w (FireEnds ns id kind hs w) := by
  cases hok : treeOk ns with
  | false => exact fire_badTree A c ns id kind Ah ch hs w hr hc hwf hok
  | true =>
    have hn := (treeOk_parts hok).1
    cases A with
    | none =>
      exfalso
      obtain ⟨a, A', c3, e, _⟩ := at_T52 hr 0 (Int.le_refl _) (by omega)
      cases e
    | some ad => exact fire_goodTree ad c ns id kind Ah ch hs w hr hc hwf hrh hch hlh hok
end Go.Proofs.Ytcjaakbmabhmdaa.Impl
