/- spec.Fire: what it answers. -/
import Derived.Test.YtcjaakbmabhmdaaIntRows
namespace Go.Proofs.Ytcjaakbmabhmdaa.Impl
open Go.RowKit Go.Proofs.YtcjaakbmabhmdaaW.PrintWords Go.Proofs.YtcjaakbmabhmdaaW.PrintLast Go.Proofs.YtcjaakbmabhmdaaW.PrintMore Go.Proofs.Ytcjaakbmabhmdaa.PFnExactFire Go.Proofs.Ytcjaakbmabhmdaa.MapLib Go.Proofs.Ytcjaakbmabhmdaa.FireSpec Go.Proofs.Ytcjaakbmabhmdaa.Tr
set_option linter.unusedVariables false
set_option linter.unusedSimpArgs false

theorem lit_row (W : World) (base : Nat) (hb : base ≤ W.heap.size) : IntRow (W.alloc (.cells #[] 3)) base (.slice (some ⟨W.heap.size, 0, none⟩) 0 0) [] := by
  have h := own_lit W base 3 .i64 [] hb (by simp)
  exact Kd.R_of_own (enc := Value.int .i64) (h1 := fun _ => rfl) (by simpa [nums, encs] using h) (fun _ _ => trivial)
theorem PathAt.lit {w W : World} (hb : Below w.heap.size w W) : PathAt w (W.alloc (.cells #[] 3)) (W.alloc (.cells #[] 3)) W.heap.size (.slice (some ⟨W.heap.size, 0, none⟩) 0 0) [] :=
  ⟨lit_row W _ hb.size, Kept.refl _ _, .inl rfl, hb.alloc hb.size _⟩
theorem PathAt.lits {w W : World} (hb : Below w.heap.size w W) : ∀ w1, W.alloc (.cells #[] 3) = w1 → PathAt w w1 w1 W.heap.size (.slice (some ⟨W.heap.size, 0, none⟩) 0 0) [] := fun _ h => h ▸ .lit hb
theorem PathAt.under {w w7 wr w8 : World} {pb : Nat} {v : Value} {l : List Int} (h : PathAt w w7 wr pb v l) (hb : Below wr.heap.size wr w8) : PathAt w w7 w8 pb v l :=
  ⟨Kd.R_below h.row hb, ⟨Nat.le_trans h.kept.1 hb.size, fun k hk hS => (hb.block k (Nat.lt_of_lt_of_le hk h.kept.1)).trans (h.kept.2 k hk hS)⟩, h.moved, below_step h.below hb⟩
theorem PathAt.grow {w w7 wr w8 : World} {pb : Nat} {v v8 : Value} {l l8 : List Int} (h : PathAt w w7 wr pb v l) (r8 : IntRow w8 w.heap.size v8 l8) (g8 : wr.grownBy w8 v.ownBlock)
    (m8 : v8.ownBlock = v.ownBlock ∨ ∃ k, v8.ownBlock = some k ∧ wr.heap.size ≤ k) : PathAt w w7 w8 pb v8 l8 := by
  have hsz := h.kept.1
  refine ⟨r8, Kept.of_grown g8 h.kept (fun k hk => ?_), ?_, h.below.grown g8 h.below.size (fun k hk => (introw_base h.row k hk).1)⟩
  · rcases h.moved with e | ⟨k', e, hk'⟩
    · rw [e] at hk; injection hk with hk; exact .inl hk.symm
    · rw [e] at hk; injection hk with hk; exact .inr (by omega)
  · rcases m8 with e | ⟨k, e, hk⟩
    · rw [e]; exact h.moved
    · exact .inr ⟨k, e, by omega⟩
theorem drawn0_below {w w1 : World} (h : Drawn0 w w1) : Below w.heap.size w w1 := h.below
theorem pars_step {ks : List Nat} {res : List Int} {n jc : Nat} {L : List Nat} (hp : ParsFrom ks res 0 n) (hA : Anc ks jc L) (hj : jc < n) :
    (L = [] ∧ rd res (jc : Int) = -1) ∨ ∃ P L2, L = P :: L2 ∧ Anc ks P L2 ∧ P < jc ∧ rd res (jc : Int) = (P : Int) := by
  cases hA with
  | root => exact .inl ⟨rfl, (hp 0 (by omega) hj).1 rfl⟩
  | @kid P i _ L2 hK hA =>
    obtain ⟨P', i', hK', h2⟩ := (hp jc (by omega) hj).2 (by have := hK.lt; omega)
    obtain ⟨rfl, _⟩ := hK.unique hK'
    exact .inr ⟨P, L2, rfl, hA, hK.lt, h2⟩
set_option maxHeartbeats 4000000 in
set_option maxRecDepth 100000 in
theorem specFire_calls (A : Option Addr) (c : Nat) (ns : List S52) (id : Int) (kind : ByteArray) (Ah : Option Addr) (ch : Nat) (hs : List S53) (w : World) (hr : Kd.C k52 w A ns.length ns) (hc : ns.length ≤ c) (ha : ∀ n ∈ ns, n.f3.length < 2 ^ 62)
    (hn : ns.length < 2 ^ 60) (hrh : Kd.C k53 w Ah hs.length hs) (hch : hs.length ≤ ch) (hlh : hs.length < 2 ^ 60) :
    Calls Try.prog 6 #[.agg #[.slice A ns.length c], .int .i64 id, .string kind, .slice Ah hs.length ch] w (FireEnds ns id kind hs w) := by
  have hut := Try.underlying32
  have huh := Try.underlying53
  have HTR := Aside0.mk (show ∀ w1, Below w.heap.size w w1 → Calls Try.prog 19 #[.agg #[.slice A ns.length c]] w1 fun e w' => e = .returned (.bool (treeOk ns)) ∧ Below w1.heap.size w1 w' from fun w1 h1 => by
    obtain ⟨k, hk⟩ := (treeOk_f ns ha).some
    exact spec_TreeOk.calls k A c ns _ w1 (Kd.C_below hr h1) hc hk)
  have HHA := Aside0.mk (show ∀ w1, Below w.heap.size w w1 → Calls Try.prog 20 #[.slice Ah hs.length ch] w1 fun e w' => e = .returned (.bool (handsOk hs)) ∧ Below w1.heap.size w1 w' from fun w1 h1 => by
    obtain ⟨k, hk⟩ := (hands_f hs (by omega)).some
    exact (spec_l20HandlersOk.calls k Ah ch hs _ w1 (Kd.C_below hrh h1) hch hk).mono fun e w' h => ⟨h.1, drawn0_below h.2⟩)
  have HAT := Aside0.mk (show ∀ w1, Below w.heap.size w w1 → Calls Try.prog 21 #[.agg #[.slice A ns.length c], .int .i64 id] w1 fun e w' => e = .returned (.int .i64 (match place ns id with | some j => (j : Int) | none => -1)) ∧ Below w1.heap.size w1 w' from fun w1 h1 => by
    obtain ⟨k, hk⟩ := (at_f ns id (by omega)).some
    exact spec_l4At.calls k A c ns id _ w1 (Kd.C_below hr h1) hc hk)
  have HPA := Aside0.mk (show treeOk ns = true → ∀ w1, Below w.heap.size w w1 → Calls Try.prog 22 #[.slice A ns.length c] w1 fun e w' => ∃ v res, e = .returned v ∧ res.length = ns.length ∧ ParsFrom (kids ns) res 0 ns.length ∧ IntRow w' w1.heap.size v res ∧ Below w1.heap.size w1 w' from fun hok w1 h1 => by
    obtain ⟨p1, p2, p3, p4, p5⟩ := treeOk_parts hok
    obtain ⟨res, hres, hrl, hpars⟩ := pars_f ns p2 p3 p5 p4
    obtain ⟨k, hk⟩ := hres.some
    exact (spec_l4Parents.calls k A c ns _ w1 (Kd.C_below hr h1) hc hk).mono fun e w' h => by
      obtain ⟨v, e1, e2, e3⟩ := h
      exact ⟨v, res, e1, hrl, hpars, e2, e3⟩)
  have HR := Aside0.mk (And.intro hr hc)
  have HRH := Aside0.mk (And.intro hrh (And.intro hch hlh))
  clear hr hc ha hn hrh hch hlh
  go_enter Try.func6, Try.ntmps6
  go_upto_region 2 with (fail)
  have hb1 : Below w.heap.size w (w.alloc (Obj.cells #[.slice A ns.length c] 32)) := (Below.refl _ _).alloc (Nat.le_refl _) _
  have hlit := PathAt.lits hb1
  have hbk := blk_newest w (Obj.cells #[.slice A ns.length c] 32)
  have hsz1 : (w.alloc (Obj.cells #[.slice A ns.length c] 32)).heap.size = w.heap.size + 1 := by simp
  have hb2 := (Below.refl (w.alloc (Obj.cells #[.slice A ns.length c] 32)).heap.size (w.alloc (Obj.cells #[.slice A ns.length c] 32))).alloc (Nat.le_refl _) (.cells #[] 3)
  have hbk2 := blk_below hbk hb2
  rw [hsz1] at hlit
  generalize hw2 : World.alloc _ _ = w2
  have HOUT := Aside0.mk (hlit w2 hw2)
  rw [hw2] at hbk2 hb2
  have HBK := Aside0.mk hbk2
  have hct := blk_cell hbk2 0
  clear hlit hbk hsz1 hb2 hbk2 hw2 hb1
  cases hto : treeOk ns with
  | false =>
    have HTO := Aside0.mk hto
    clear hto
    go_wp2_with (first | (go_at_call 19; refine (HTR.out _ HOUT.out.below).mono ?_; rintro e w5 ⟨rfl, hb5⟩; have HB5 := Aside0.mk hb5; clear hb5; rw [HTO.out]))
    go_ret
    have hE := HOUT.out.under HB5.out
    exact ⟨[], _, rfl, by unfold Fired; rw [HTO.out]; simp, hE.row, hE.below⟩
  | true =>
    have HTO := Aside0.mk hto
    clear hto
    cases hho : handsOk hs with
    | false =>
      have HHO := Aside0.mk hho
      clear hho
      go_wp2_with (first | (go_at_call 19; refine (HTR.out _ HOUT.out.below).mono ?_; rintro e w5 ⟨rfl, hb5⟩; have HB5 := Aside0.mk (HOUT.out.under hb5); clear hb5; rw [HTO.out]) | (go_at_call 20; refine (HHA.out _ HB5.out.below).mono ?_; rintro e w6 ⟨rfl, hb6⟩; have HB6 := Aside0.mk (HB5.out.under hb6); clear hb6; rw [HHO.out]))
      go_ret
      have hE := HB6.out
      exact ⟨[], _, rfl, by unfold Fired; rw [HHO.out]; simp, hE.row, hE.below⟩
    | true =>
      have HHO := Aside0.mk hho
      clear hho
      cases hpl : place ns id with
      | none =>
        have HPL := Aside0.mk hpl
        clear hpl
        go_wp2_with (first | (go_at_call 19; refine (HTR.out _ HOUT.out.below).mono ?_; rintro e w5 ⟨rfl, hb5⟩; have HB5 := Aside0.mk (And.intro (HOUT.out.under hb5) (blk_below HBK.out hb5)); clear hb5; rw [HTO.out]) | (go_at_call 20; refine (HHA.out _ HB5.out.1.below).mono ?_; rintro e w6 ⟨rfl, hb6⟩; have HB6 := Aside0.mk (And.intro (HB5.out.1.under hb6) (blk_below HB5.out.2 hb6)); have hct6 := blk_cell HB6.out.2 0; clear hb6; rw [HHO.out]) | (go_at_call 21; refine (HAT.out _ HB6.out.1.below).mono ?_; rintro e w7 ⟨rfl, hb7⟩; have HB7 := Aside0.mk (HB6.out.1.under hb7); clear hb7; rw [HPL.out]; simp only))
        go_ret
        have hE := HB7.out
        exact ⟨[], _, rfl, by unfold Fired; rw [HTO.out, HHO.out, HPL.out]; simp, hE.row, hE.below⟩
      | some j =>
        have HPL := Aside0.mk hpl
        clear hpl
        go_upto_region 9 with (first | (go_at_call 19; refine (HTR.out _ HOUT.out.below).mono ?_; rintro e w5 ⟨rfl, hb5⟩; have HB5 := Aside0.mk (And.intro (HOUT.out.under hb5) (blk_below HBK.out hb5)); clear hb5; rw [HTO.out]) | (go_at_call 20; refine (HHA.out _ HB5.out.1.below).mono ?_; rintro e w6 ⟨rfl, hb6⟩; have HB6 := Aside0.mk (And.intro (HB5.out.1.under hb6) (blk_below HB5.out.2 hb6)); have hct6 := blk_cell HB6.out.2 0; clear hb6; rw [HHO.out]) | (go_at_call 21; refine (HAT.out _ HB6.out.1.below).mono ?_; rintro e w7 ⟨rfl, hb7⟩; have HB7 := Aside0.mk (And.intro (HB6.out.1.under hb7) (blk_below HB6.out.2 hb7)); have hct7 := blk_cell HB7.out.2 0; clear hb7; rw [HPL.out]; simp only) | (go_at_call 22; refine (HPA.out HTO.out _ HB7.out.1.below).mono ?_; rintro e w8 ⟨v8, res, rfl, hrl, hpars, hrow8, hb8⟩; have HB8 := Aside0.mk (And.intro (HB7.out.1.under hb8) (blk_below HB7.out.2 hb8)); have HRES := Aside0.mk (And.intro hrl (And.intro hpars (And.intro hrow8 hb8.size))); clear hb8 hrl hpars hrow8))
        obtain ⟨p1, p2, _, _, _⟩ := treeOk_parts HTO.out
        have hjn := (place_some HPL.out).1
        have HNN := Aside0.mk (And.intro p2 hjn)
        obtain ⟨A8, c8, e8⟩ := Kd.R_slice HRES.out.2.2.1
        subst e8
        obtain ⟨ad8, e8, _⟩ := Kd.at_int (Kd.R_reads' HRES.out.2.2.1).2.2 (j : Int) (by omega) (by rw [HRES.out.1]; omega)
        subst e8
        obtain ⟨L, hL, hLl⟩ := anc_exists HRES.out.2.1 j hjn
        have HL := Aside0.mk (And.intro hL (show L.length ≤ 4000 by omega))
        have hbl9 := blk_newest w8 (Obj.cells #[] 3)
        have hup := PathAt.lits HB8.out.1.below
        have hb9 : Below w8.heap.size w8 (w8.alloc (Obj.cells #[] 3)) := (Below.refl _ _).alloc (Nat.le_refl _) _
        have hsz9 : (w8.alloc (Obj.cells #[] 3)).heap.size = w8.heap.size + 1 := by simp
        generalize hw9 : World.alloc _ _ = w9
        rw [hw9] at hb9 hsz9 hbl9
        have hup := hup w9 hw9
        have HK9 := Aside0.mk (show ∀ (wr : World) (v : Value) (l : List Int), PathAt w w9 wr w8.heap.size v l → ∀ k, k < w8.heap.size → wr.heap[k]? = w8.heap[k]? from fun wr v l hP k hk => (hP.kept.2 k (by omega) (by omega)).trans (hb9.block k hk))
        have HRP := Aside0.mk (show ∀ (wr : World) (v : Value) (l : List Int), PathAt w w9 wr w8.heap.size v l → IntRow wr w7.heap.size (.slice (some ad8) res.length c8) res ∧ wr.heap[w.heap.size]? = some (.cells #[.slice A ns.length c] 32 (0, 0)) from fun wr v l hP =>
          ⟨introw_keep HRES.out.2.2.1 (fun k hk => HK9.out wr v l hP k (introw_base HRES.out.2.2.1 k hk).2), (HK9.out wr v l hP _ (blk_lt HB8.out.2)).trans HB8.out.2⟩)
        have HRD := Aside0.mk (show ∀ (wr : World) (v : Value) (l : List Int), PathAt w w9 wr w8.heap.size v l → ∀ q : Nat, q < ns.length → wr.cell? (ad8.add q) = some (.int .i64 (rd res (q : Int))) from fun wr v l hP q hq => by
          obtain ⟨ad, e, hx⟩ := Kd.at_int (Kd.R_reads' (HRP.out wr v l hP).1).2.2 (q : Int) (by omega) (by rw [HRES.out.1]; omega)
          cases e
          simpa using hx)
        have hx8 := HRD.out w9 _ _ hup j hjn
        have hrl := HRES.out.1
        have hj0 : decide (0 ≤ (j : Int)) = true := decide_eq_true (by omega)
        have hj1 : decide ((j : Int) < (res.length : Int)) = true := decide_eq_true (by omega)
        have hj4 : (j : Int) ≤ 4000 := by omega
        have HUP := Aside0.mk hup
        have HLL := Aside0.mk hLl
        have hj2 : (j : Int) < (res.length : Int) := by omega
        have hj3 : j < res.length := by omega
        clear hrl hup hct hct6 hct7 hLl hw9 hb9 hbl9 hL p1 p2 hjn
        go_upto_region 10 with (fail)
        clear hx8 hj0 hj1 hj2 hj3 hj4
        go_loopg [12, 13] (L.length + 1) (fun kq v12 v13 wr => ∃ (L1 L2 : List Nat) (jc : Nat) (p : Int), v13 = .int .i64 p ∧ Aside0 (p = rd res (jc : Int) ∧ L = L1 ++ L2 ∧ Anc (kids ns) jc L2 ∧ jc < ns.length ∧ L2.length + 1 = kq) ∧ Aside0 (PathAt w w9 wr w8.heap.size v12 (idsOf ns L1)))
        case atStart => exact ⟨[], L, j, _, rfl, ⟨rfl, rfl, HL.out.1, HNN.out.2, rfl⟩, HUP⟩
        case round =>
          obtain ⟨L1, L2, jc, p, rfl, HQ, HPT⟩ := hrel
          obtain ⟨A9, c9, e9⟩ := Kd.R_slice HPT.out.row
          subst e9
          rcases pars_step HRES.out.2.1 HQ.out.2.2.1 HQ.out.2.2.2.1 with ⟨e1, e2⟩ | ⟨P, L3, e1, hA3, hPj, e2⟩
          · obtain rfl : p = -1 := by rw [HQ.out.1, e2]
            have hL1 : L = L1 := by have := HQ.out.2.1; rw [e1] at this; simpa using this
            subst hL1
            rename World => wU
            have HHL := Aside0.mk HL.out.1
            have hul : (idsOf ns L).length ≤ 4000 := by have := HL.out.2; simpa [idsOf] using this
            generalize hup : idsOf ns L = up at *
            have HU := Aside0.mk hup
            have HUL := Aside0.mk hul
            have hd0 : decide ((-1 : Int) ≥ 0) = false := rfl
            have HOUTK := Aside0.mk (show IntRow wU w.heap.size (.slice (some ⟨w.heap.size + 1, 0, none⟩) 0 0) [] from introw_keep HB8.out.1.row (fun k hk => HK9.out wU _ _ HPT.out k (introw_base HB8.out.1.row k hk).2))
            have hub4 : (up.length : Int) ≤ 4000 := by omega
            clear e1 e2 hup hul HRD
            go_upto_region 15 with (fail)
            have hpl := PathAt.lits HPT.out.below
            have hb10 : Below wU.heap.size wU (wU.alloc (Obj.cells #[] 3)) := (Below.refl _ _).alloc (Nat.le_refl _) _
            have hsz10 : (wU.alloc (Obj.cells #[] 3)).heap.size = wU.heap.size + 1 := by simp
            generalize hw10 : World.alloc _ _ = w10
            rw [hw10] at hb10 hsz10
            have hpl := hpl w10 hw10
            have HPL2 := Aside0.mk hpl
            have HK10 := Aside0.mk (show ∀ (wq : World) (v : Value) (l : List Int), PathAt w w10 wq wU.heap.size v l → ∀ k, k < wU.heap.size → wq.heap[k]? = wU.heap[k]? from fun wq v l hP k hk => (hP.kept.2 k (by omega) (by omega)).trans (hb10.block k hk))
            have HUR := Aside0.mk (show ∀ (wq : World) (v : Value) (l : List Int), PathAt w w10 wq wU.heap.size v l → IntRow wq w.heap.size (.slice A9 up.length c9) up from fun wq v l hP =>
              introw_keep HPT.out.row (fun k hk => HK10.out wq v l hP k (introw_base HPT.out.row k hk).2))
            have HSZ10 := Aside0.mk hsz10
            clear hpl hb10 hsz10 hw10
            go_loopg [14, 15] (up.length + 1) (fun kq v14 v15 wq => ∃ (m : Nat) (q : Int), v15 = .int .i64 q ∧ Aside0 (q = (m : Int) - 1 ∧ m ≤ up.length ∧ m + 1 = kq) ∧ Aside0 (PathAt w w10 wq wU.heap.size v14 (up.drop m).reverse))
            case atStart => exact ⟨up.length, _, rfl, ⟨rfl, Nat.le_refl _, rfl⟩, ⟨by rw [List.drop_length]; exact HPL2.out⟩⟩
            case round =>
              obtain ⟨m, q, rfl, HM, HPP⟩ := hrel
              obtain ⟨A10, c10, e10⟩ := Kd.R_slice HPP.out.row
              subst e10
              cases m with
              | zero =>
                obtain rfl : q = -1 := HM.out.1
                rename World => wV
                have hd0 : decide ((-1 : Int) ≥ 0) = false := rfl
                have hul := HUL.out
                have hurl : (List.drop 0 up).reverse.length ≤ 4000 := by simpa using hul
                generalize hur : (List.drop 0 up).reverse = ur at *
                have HUV := Aside0.mk hur
                clear hur
                go_upto_region 20 with (first | ((with_reducible refine gate_builtin (b := .append) (xs := #[.tmp 74, .tmp 76]) rfl ?_); at_builtin; refine Kd.R_append (Kd.int .i64) (w0 := w) w.heap.size rfl (.tmp 74) (.tmp 76) 28 3 (.int .i64 0) 8 rfl Try.underlying28 info3 rfl (by decide) (by omega) (.slice A10 ur.length c10) ur id [.int .i64 id] (fun _ => True) (fun _ => False) rfl rfl ?aP (fun _ hk => hk.elim) ?aF ?aO ?aB ?aS ?aL ?_; (case aP => exact rfl); (case aB => exact HPP.out.below); (case aF => exact (fun _ _ => trivial)); (case aO => exact HPP.out.row); (case aS => exact HPP.out.below.size); (case aL => omega); intro v8 w11 hr8 hb8 hg8 hm8; have hp11 := HPP.out.grow hr8 hg8 hm8; clear hr8 hb8 hg8 hm8; have hual : (ur ++ [id]).length ≤ 4001 := (by rw [List.length_append]; simp only [List.length_cons, List.length_nil]; omega); generalize hua : ur ++ [id] = ua at hp11 hual; have HUA := Aside0.mk hua; clear hua; obtain ⟨A11, c11, e11⟩ := Kd.R_slice hp11.row; subst e11; have HP11 := Aside0.mk hp11; clear hp11) | ((with_reducible refine gate_builtin (b := .append) (xs := #[.tmp 78, .tmp 79]) rfl ?_); at_builtin; refine Kd.R_append_row (Value.int .i64) (0 : Int) (h1 := fun _ => rfl) (w0 := w) w.heap.size rfl (.tmp 78) (.tmp 79) 28 3 (.int .i64 0) 8 rfl Try.underlying28 info3 rfl (by decide) (.slice A11 ua.length c11) ua up A9 up.length c9 (fun _ => True) rfl rfl (fun _ _ => trivial) HP11.out.row (Kd.R_reads' (HUR.out _ _ _ HP11.out)).2.2 HP11.out.below HP11.out.below.size (by omega) ?_; intro v12 w12 hr12 hb12 hg12 hm12; have HP12 := Aside0.mk (HP11.out.grow hr12 hg12 hm12); clear hr12 hb12 hg12 hm12))
                have hpath : ua ++ up = pathOf up id := by rw [← HUA.out, ← HUV.out]; rfl
                have hp12 := HP12.out
                rw [hpath] at hp12
                have hpl : (pathOf up id).length ≤ 8001 := by simp [pathOf]; omega
                have hpl0 : 0 < (pathOf up id).length := by simp [pathOf]; omega
                have hstl := stages_length up id kind
                have hsta := stages_at up id kind
                generalize hpt : pathOf up id = pt at *
                generalize hst : stages up id kind = st at *
                obtain ⟨A12, c12, e12⟩ := Kd.R_slice hp12.row
                subst e12
                obtain ⟨ad12, e12, _⟩ := Kd.at_int (Kd.R_reads' hp12.row).2.2 0 (by omega) (by omega)
                subst e12
                have hob : w.heap.size + 1 < wU.heap.size := (introw_base HOUTK.out _ rfl).2
                have HO12 := Aside0.mk (show PathAt w w12 w12 (w.heap.size + 1) (.slice (some ⟨w.heap.size + 1, 0, none⟩) 0 0) [] from ⟨introw_keep HOUTK.out (fun k hk => HK10.out w12 _ _ HP12.out k (introw_base HOUTK.out k hk).2), Kept.refl _ _, .inl rfl, hp12.below⟩)
                have HPR := Aside0.mk (show ∀ (wq : World) (v : Value) (l : List Int), PathAt w w12 wq (w.heap.size + 1) v l → ∀ i : Nat, i < pt.length → wq.cell? (ad12.add i) = some (.int .i64 (rd pt (i : Int))) from fun wq v l hP i hi => by
                  have hrow := introw_keep hp12.row (fun k hk => hP.kept.2 k (introw_base hp12.row k hk).2 (by
                    have := HSZ10.out
                    rcases hp12.moved with e | ⟨k', e, hk'⟩ <;> rw [e] at hk <;> injection hk with hk <;> omega))
                  obtain ⟨ad, e, hx⟩ := Kd.at_int (Kd.R_reads' hrow).2.2 (i : Int) (by omega) (by omega)
                  cases e
                  simpa using hx)
                have HST := Aside0.mk (And.intro hstl hsta)
                have HEND := Aside0.mk (show Fired ns id kind hs (runR hs st) by
                  unfold Fired
                  rw [HTO.out, HHO.out, HPL.out]
                  simp only [and_self, if_true]
                  exact ⟨_, HHL.out, by rw [HU.out, hst]⟩)
                have HHS := Aside0.mk (show hs.length ≤ 1000 by have := HHO.out; unfold handsOk at this; rw [Bool.and_eq_true, decide_eq_true_eq] at this; exact this.1)
                have HPTL := Aside0.mk hpl
                clear hpath hp12 hpl hpl0 hstl hsta hob hst hpt hul hurl
                go_upto_region 21 with (fail)
                go_loopg [9, 16] (pt.length + 1) (fun kq v9 v16 wq => ∃ (i : Nat) (out : List Int), v16 = .int .i64 i ∧ Aside0 (i + kq = pt.length + 1 ∧ i ≤ pt.length ∧ out.length ≤ i * 1000 ∧ runR hs st = out ++ runR hs (st.drop i)) ∧ Aside0 (PathAt w w12 wq (w.heap.size + 1) v9 out))
                case atStart => exact ⟨0, [], rfl, ⟨by omega, by omega, by simp, rfl⟩, HO12⟩
                case round =>
                  rename World => wr
                  obtain ⟨go, hgo⟩ : ∃ g, g = gk := ⟨_, rfl⟩
                  have HGO := Aside0.mk hgo
                  clear hgo
                  obtain ⟨i, out, rfl, HI, HPO⟩ := hrel
                  obtain ⟨A13, c13, e13⟩ := Kd.R_slice HPO.out.row
                  subst e13
                  by_cases hlt : i < pt.length
                  · have hd : decide ((i : Int) < (pt.length : Int)) = true := decide_eq_true (by omega)
                    have hd2 : decide (i < pt.length) = true := decide_eq_true hlt
                    obtain ⟨pi, hpi⟩ : ∃ pi, rd pt (i : Int) = pi := ⟨_, rfl⟩
                    obtain ⟨f, hf⟩ : ∃ f : Hand → Bool, f = fitsAt pi kind (modeAt up.length i) := ⟨_, rfl⟩
                    have hrp : pt[i] = pi := by rw [← hpi]; simp [rd, hlt]
                    have HSI := Aside0.mk (show runR hs st = out ++ ((stepR f hs 0 false).1 ++ (if (stepR f hs 0 false).2 = true then [] else runR hs (st.drop (i + 1)))) by
                      have hsl : i < st.length := by rw [HST.out.1]; exact hlt
                      have h1 := HST.out.2 i hlt
                      rw [List.getElem?_eq_getElem hsl] at h1
                      have h2 : st[i] = f := by rw [hf, Option.some.inj h1, hrp]
                      rw [HI.out.2.2.2, List.drop_eq_getElem_cons hsl, h2]
                      rfl)
                    have HF := Aside0.mk hf
                    have hpt4 : pt.length ≤ 8001 := HPTL.out
                    have hi4 : (i : Int) ≤ 8001 := by omega
                    have hlti : (i : Int) < pt.length := by omega
                    have HPC := Aside0.mk (show ∀ (wq : World) (v : Value) (l : List Int), PathAt w w12 wq (w.heap.size + 1) v l → wq.cell? (ad12.add i) = some (.int .i64 pi) from fun wq v l hP => by rw [HPR.out wq v l hP i hlt, hpi])
                    clear hf hrp hpi
                    go_upto_region 25 with (fail)
                    go_loopg [9, 17, 18] (hs.length + 1) (fun kq v9 v17 v18 wq => ∃ (k2 : Nat) (o2 : List Int) (stop : Bool), v17 = .bool stop ∧ v18 = .int .i64 k2 ∧ Aside0 (k2 + kq = hs.length + 1 ∧ k2 ≤ hs.length ∧ o2.length ≤ k2 ∧ stepR f hs 0 false = (o2 ++ (stepR f (hs.drop k2) k2 stop).1, (stepR f (hs.drop k2) k2 stop).2)) ∧ Aside0 (PathAt w w12 wq (w.heap.size + 1) v9 (out ++ o2)))
                    case atStart => exact ⟨0, [], false, rfl, rfl, ⟨by omega, by omega, by simp, by simp⟩, ⟨by simpa using HPO.out⟩⟩
                    case round =>
                      rename World => wI
                      obtain ⟨k2, o2, stop, rfl, rfl, HK, HPI⟩ := hrel
                      have hol : (out ++ o2).length ≤ 100000000 := by
                        have h1 := HI.out; have h2 := HK.out; have h3 := HHS.out
                        rw [List.length_append]
                        have h4 : i * 1000 ≤ 8001 * 1000 := Nat.mul_le_mul_right _ (by omega)
                        omega
                      obtain ⟨A14, c14, e14⟩ := Kd.R_slice HPI.out.row
                      subst e14
                      by_cases hkl : k2 < hs.length
                      · have hke : decide ((k2 : Int) < (hs.length : Int)) = true := decide_eq_true (by omega)
                        have hke2 : decide (k2 < hs.length) = true := decide_eq_true hkl
                        obtain ⟨adh, rfl, hx0, hx1, hx2, hx3⟩ := at_T53 (Kd.C_below HRH.out.1 HPI.out.below) (k2 : Int) (by omega) (by omega)
                        obtain ⟨h, hh⟩ : ∃ h, rd_T53 hs (k2 : Int) = h := ⟨_, rfl⟩
                        have hdrop : hs.drop k2 = h :: hs.drop (k2 + 1) := by
                          rw [List.drop_eq_getElem_cons hkl, ← hh]
                          simp [rd_T53, hkl]
                        rw [Int.toNat_natCast] at hx0 hx1 hx2 hx3
                        rw [hh] at hx0 hx1 hx2 hx3
                        have HDROP := Aside0.mk hdrop
                        have hk4 : (k2 : Int) ≤ 1000 := by have := HHS.out; omega
                        have hkl' : (k2 : Int) < hs.length := by omega
                        clear hdrop hh
                        go_upto_region 28 with (fail)
                        generalize hw4 : World.alloc wI _ = w4
                        have hb4 : Below wI.heap.size wI w4 := by rw [← hw4]; exact (Below.refl _ _).alloc (Nat.le_refl _) _
                        have hblk4 : w4.heap[wI.heap.size]? = some (.cells #[.int .i64 h.f0, .string h.f1, .bool h.f2, .int .i64 h.f3] 53 (0, 0)) := by rw [← hw4]; exact blk_newest wI _
                        have hg0 : w4.cell? ⟨wI.heap.size, 0, none⟩ = some (.int .i64 h.f0) := blk_cell hblk4 0
                        have hg1 : w4.cell? ⟨wI.heap.size, 1, none⟩ = some (.string h.f1) := blk_cell hblk4 1
                        have hg2 : w4.cell? ⟨wI.heap.size, 2, none⟩ = some (.bool h.f2) := blk_cell hblk4 2
                        have hpi4 := HPC.out w4 _ _ (HPI.out.under hb4)
                        have HPI4 := Aside0.mk (HPI.out.under hb4)
                        have HBLK4 := Aside0.mk hblk4
                        clear hw4 hx0 hx1 hx2 hx3 hb4 hblk4
                        generalize wI.heap.size = hbk at hg0 hg1 hg2 HBLK4 ⊢
                        (try simp only [Act.put, List.setIfInBounds_toArray, List.set_cons_zero, List.set_cons_succ])
                        go_cut [130] (fun v130 wc => v130 = .bool (!f h) ∧ Aside0 (Below w4.heap.size w4 wc))
                        case first =>
                          by_cases c1 : h.f0 = pi
                          · have d1 : decide (h.f0 = pi) = true := decide_eq_true c1
                            have d2 : (h.f0 == pi) = true := by simpa using c1
                            have d3 : (h.f0 != pi) = false := by simpa using c1
                            by_cases c2 : h.f1 = kind
                            · have e1 : decide (h.f1 = kind) = true := decide_eq_true c2
                              have e2 : (h.f1 == kind) = true := by rw [bytes_beq]; exact e1
                              have e3 : (h.f1.toList == kind.toList) = true := by rw [← Go.beq_toListBytes]; exact e2
                              have e4 : (h.f1 != kind) = false := by unfold bne; rw [e2]; rfl
                              have e5 : (h.f1.toList != kind.toList) = false := by unfold bne; rw [e3]; rfl
                              rcases Nat.lt_trichotomy i up.length with c3 | c3 | c3
                              · have g1 : decide ((i : Int) < (up.length : Int)) = true := decide_eq_true (by omega)
                                have g2 : decide (i < up.length) = true := decide_eq_true c3
                                have g3 : decide ((i : Int) > (up.length : Int)) = false := decide_eq_false (by omega)
                                have g4 : decide ((up.length : Int) < (i : Int)) = false := decide_eq_false (by omega)
                                have g5 : decide (up.length < i) = false := decide_eq_false (by omega)
                                have HFH := Aside0.mk (show f h = h.f2 by rw [HF.out]; simp [fitsAt, modeAt, c1, c2, c3])
                                clear c1 c2 c3
                                generalize h.f2 = hm at hg2 HFH
                                cases hm with
                                | true =>
                                  go_region
                                  go_wp2
                                  go_meet
                                  case rel => exact ⟨by rw [HFH.out]; rfl, ⟨(Below.refl _ _).drew⟩⟩
                                | false =>
                                  go_region
                                  go_wp2
                                  go_meet
                                  case rel => exact ⟨by rw [HFH.out]; rfl, ⟨(Below.refl _ _).drew⟩⟩
                              · have g1 : decide ((i : Int) < (up.length : Int)) = false := decide_eq_false (by omega)
                                have g2 : decide (i < up.length) = false := decide_eq_false (by omega)
                                have g3 : decide ((i : Int) > (up.length : Int)) = false := decide_eq_false (by omega)
                                have g4 : decide ((up.length : Int) < (i : Int)) = false := decide_eq_false (by omega)
                                have g5 : decide (up.length < i) = false := decide_eq_false (by omega)
                                have HFH := Aside0.mk (show f h = true by rw [HF.out]; simp [fitsAt, modeAt, c1, c2, c3])
                                clear c1 c2 c3
                                go_region
                                go_wp2
                                go_meet
                                case rel => exact ⟨by rw [HFH.out]; rfl, ⟨(Below.refl _ _).drew⟩⟩
                              · have g1 : decide ((i : Int) < (up.length : Int)) = false := decide_eq_false (by omega)
                                have g2 : decide (i < up.length) = false := decide_eq_false (by omega)
                                have g3 : decide ((i : Int) > (up.length : Int)) = true := decide_eq_true (by omega)
                                have g4 : decide ((up.length : Int) < (i : Int)) = true := decide_eq_true (by omega)
                                have g5 : decide (up.length < i) = true := decide_eq_true c3
                                have HFH := Aside0.mk (show f h = !h.f2 by
                                  have c4 : ¬ i < up.length := by omega
                                  rw [HF.out]; simp [fitsAt, modeAt, c1, c2, c3, c4])
                                clear c1 c2 c3
                                generalize h.f2 = hm at hg2 HFH
                                cases hm with
                                | true =>
                                  go_region
                                  go_wp2
                                  go_meet
                                  case rel => exact ⟨by rw [HFH.out]; rfl, ⟨(Below.refl _ _).drew⟩⟩
                                | false =>
                                  go_region
                                  go_wp2
                                  go_meet
                                  case rel => exact ⟨by rw [HFH.out]; rfl, ⟨(Below.refl _ _).drew⟩⟩
                            · have e1 : decide (h.f1 = kind) = false := decide_eq_false c2
                              have e2 : (h.f1 == kind) = false := by rw [bytes_beq]; exact e1
                              have e3 : (h.f1.toList == kind.toList) = false := by rw [← Go.beq_toListBytes]; exact e2
                              have e4 : (h.f1 != kind) = true := by unfold bne; rw [e2]; rfl
                              have e5 : (h.f1.toList != kind.toList) = true := by unfold bne; rw [e3]; rfl
                              have HFH := Aside0.mk (show f h = false by rw [HF.out]; simp [fitsAt, c2])
                              clear hg2 c1 c2
                              go_region
                              go_wp2
                              go_meet
                              case rel => exact ⟨by rw [HFH.out]; rfl, ⟨(Below.refl _ _).drew⟩⟩
                          · have d1 : decide (h.f0 = pi) = false := decide_eq_false c1
                            have d2 : (h.f0 == pi) = false := by simpa using c1
                            have d3 : (h.f0 != pi) = true := by simpa using c1
                            have HFH := Aside0.mk (show f h = false by rw [HF.out]; simp [fitsAt, c1])
                            clear hg1 hg2 c1
                            go_region
                            go_wp2
                            go_meet
                            case rel => exact ⟨by rw [HFH.out]; rfl, ⟨(Below.refl _ _).drew⟩⟩
                        case rest =>
                          obtain ⟨rfl, HBC⟩ := hcut
                          have HPI5 := Aside0.mk (HPI4.out.under HBC.out)
                          have HBLK5 := Aside0.mk (blk_below HBLK4.out HBC.out)
                          clear hg0 hg1 hg2 hpi4 HBC HPI4 HBLK4
                          cases hfh : f h with
                          | false =>
                            have HK2 := Aside0.mk (show (k2 + 1 + (gk - 1) = hs.length + 1 ∧ k2 + 1 ≤ hs.length ∧ o2.length ≤ k2 + 1 ∧ stepR f hs 0 false = (o2 ++ (stepR f (hs.drop (k2 + 1)) ((k2 + 1 : Nat) : Int) stop).1, (stepR f (hs.drop (k2 + 1)) ((k2 + 1 : Nat) : Int) stop).2)) ∧ 0 < gk by
                              have := HK.out
                              refine ⟨⟨by omega, by omega, by omega, ?_⟩, by omega⟩
                              rw [this.2.2.2, HDROP.out]
                              simp only [stepR, hfh, Bool.false_eq_true, if_false]
                              rfl)
                            clear hfh hkl hkl'
                            go_wp2
                            have hii : (k2 : Int) + 1 = ((k2 + 1 : Nat) : Int) := by omega
                            go_roundg (gk - 1)
                            case measure => have := HK2.out; omega
                            case rel => exact ⟨k2 + 1, o2, stop, rfl, by rw [hii], ⟨HK2.out.1⟩, HPI5⟩
                          | true =>
                            have HK2 := Aside0.mk (show stepR f hs 0 false = (o2 ++ (stepR f (h :: hs.drop (k2 + 1)) k2 stop).1, (stepR f (h :: hs.drop (k2 + 1)) k2 stop).2) by
                              have := HK.out
                              rw [this.2.2.2, HDROP.out])
                            have HFH := Aside0.mk hfh
                            clear hfh hkl hkl'
                            generalize hon : out ++ o2 = on at *
                            have HON := Aside0.mk hon
                            clear hon
                            go_upto_region 30 with (first | ((with_reducible refine gate_builtin (b := .append) (xs := #[.tmp 131, .tmp 133]) rfl ?_); at_builtin; refine Kd.R_append (Kd.int .i64) (w0 := w) w.heap.size rfl (.tmp 131) (.tmp 133) 28 3 (.int .i64 0) 8 rfl Try.underlying28 info3 rfl (by decide) (by omega) (.slice A14 on.length c14) on (k2 : Int) [.int .i64 (k2 : Int)] (fun _ => True) (fun _ => False) rfl rfl ?aP (fun _ hk => hk.elim) ?aF ?aO ?aB ?aS ?aL ?_; (case aP => exact rfl); (case aB => exact HPI5.out.below); (case aF => exact (fun _ _ => trivial)); (case aO => exact HPI5.out.row); (case aS => exact HPI5.out.below.size); (case aL => omega); intro v8 w8' hr8 hb8 hg8 hm8; have HP8 := Aside0.mk (HPI5.out.grow hr8 hg8 hm8); have hg3 : w8'.cell? ⟨hbk, 3, none⟩ = some (.int .i64 h.f3) := blk_cell (blk_grown HBLK5.out hg8 (introw_ne HPI5.out.row HBLK5.out (by decide))) 3; clear hr8 hb8 hg8 hm8))
                            by_cases c2 : h.f3 = 2
                            · have d1 : (h.f3 == 2) = true := by simpa using c2
                              have d2 : decide (h.f3 = 2) = true := decide_eq_true c2
                              have HC2 := Aside0.mk c2
                              clear c2
                              go_wp2
                              go_ret
                              refine ⟨_, v8, rfl, ?_, HP8.out.row, HP8.out.below⟩
                              have hE := HEND.out
                              have hk := HK2.out
                              simp only [stepR, HFH.out, if_true, HC2.out] at hk
                              rw [HSI.out, hk] at hE
                              rw [← HON.out]
                              simpa using hE
                            · have d1 : (h.f3 == 2) = false := by simpa using c2
                              have d2 : decide (h.f3 = 2) = false := decide_eq_false c2
                              have HC2 := Aside0.mk c2
                              have HK3 := Aside0.mk (show (k2 + 1 + (gk - 1) = hs.length + 1 ∧ k2 + 1 ≤ hs.length ∧ (o2 ++ [(k2 : Int)]).length ≤ k2 + 1 ∧ stepR f hs 0 false = ((o2 ++ [(k2 : Int)]) ++ (stepR f (hs.drop (k2 + 1)) ((k2 + 1 : Nat) : Int) (stop || h.f3 == 1)).1, (stepR f (hs.drop (k2 + 1)) ((k2 + 1 : Nat) : Int) (stop || h.f3 == 1)).2)) ∧ 0 < gk by
                                have h1 := HK.out
                                have hkl : k2 < hs.length := by simpa using hke2
                                refine ⟨⟨by omega, by omega, by simp; omega, ?_⟩, by omega⟩
                                rw [HK2.out]
                                simp only [stepR, HFH.out, if_true, HC2.out, if_false]
                                simp)
                              clear c2
                              cases stop with
                              | true =>
                                go_wp2
                                have hii : (k2 : Int) + 1 = ((k2 + 1 : Nat) : Int) := by omega
                                go_roundg (gk - 1)
                                case measure => have := HK3.out; omega
                                case rel => exact ⟨k2 + 1, o2 ++ [(k2 : Int)], true, rfl, by rw [hii], ⟨HK3.out.1⟩, ⟨by rw [← List.append_assoc, HON.out]; exact HP8.out⟩⟩
                              | false =>
                                go_wp2
                                have hii : (k2 : Int) + 1 = ((k2 + 1 : Nat) : Int) := by omega
                                go_roundg (gk - 1)
                                case measure => have := HK3.out; omega
                                case rel => exact ⟨k2 + 1, o2 ++ [(k2 : Int)], h.f3 == 1, rfl, by rw [hii], ⟨HK3.out.1⟩, ⟨by rw [← List.append_assoc, HON.out]; exact HP8.out⟩⟩
                      · have hke : decide ((k2 : Int) < (hs.length : Int)) = false := decide_eq_false (by omega)
                        have hke2 : decide (k2 < hs.length) = false := decide_eq_false hkl
                        have HRES := Aside0.mk (show stepR f hs 0 false = (o2, stop) by
                          have := HK.out
                          rw [this.2.2.2, List.drop_eq_nil_of_le (by omega)]
                          simp [stepR])
                        clear hkl
                        generalize hon : out ++ o2 = on at *
                        have HON := Aside0.mk hon
                        clear hon
                        cases stop with
                        | true =>
                          go_wp2
                          go_ret
                          refine ⟨_, _, rfl, ?_, HPI.out.row, HPI.out.below⟩
                          have hE := HEND.out
                          rw [HSI.out, HRES.out] at hE
                          rw [← HON.out]
                          simpa using hE
                        | false =>
                          have HI2 := Aside0.mk (show (i + 1 + (go - 1) = pt.length + 1 ∧ i + 1 ≤ pt.length ∧ on.length ≤ (i + 1) * 1000 ∧ runR hs st = on ++ runR hs (st.drop (i + 1))) ∧ 0 < go by
                            have h1 := HI.out
                            have h2 := HGO.out
                            have h3 := HK.out
                            have h4 := HHS.out
                            have h5 : i < pt.length := by simpa using hd2
                            refine ⟨⟨by omega, by omega, ?_, ?_⟩, by omega⟩
                            · rw [← HON.out, List.length_append]; omega
                            · rw [HSI.out, HRES.out, ← HON.out]; simp)
                          go_wp2
                          have hii : (i : Int) + 1 = ((i + 1 : Nat) : Int) := by omega
                          go_roundg (go - 1)
                          case measure => have h1 := HI2.out; have h2 := HGO.out; omega
                          case rel => exact ⟨i + 1, on, by rw [hii], ⟨HI2.out.1⟩, HPI⟩
                  · have hd : decide ((i : Int) < (pt.length : Int)) = false := decide_eq_false (by omega)
                    have hd2 : decide (i < pt.length) = false := decide_eq_false hlt
                    clear hlt
                    go_wp2
                    go_ret
                    have hi : i = pt.length := by have := HI.out; simp at hd2; omega
                    refine ⟨out, _, rfl, ?_, HPO.out.row, HPO.out.below⟩
                    have h := HEND.out
                    rw [HI.out.2.2.2, List.drop_eq_nil_of_le (by rw [HST.out.1]; omega)] at h
                    simpa [runR] using h
              | succ m =>
                obtain rfl : q = (m : Int) := by rw [HM.out.1]; omega
                have hm := HM.out.2.1
                obtain ⟨ad, e, hx⟩ := Kd.at_int (Kd.R_reads' (HUR.out wr _ _ HPP.out)).2.2 (m : Int) (by omega) (by omega)
                subst e
                rw [Int.toNat_natCast] at hx
                have hrd : rd up (m : Int) = up[m] := by have hm' : m < up.length := hm; simp [rd, hm']
                generalize hux : rd up (m : Int) = ux at hx
                generalize hpa : (up.drop (m + 1)).reverse = pa at *
                have hpal : pa.length ≤ 4000 := by rw [← hpa]; have := HUL.out; simp; omega
                have hd0 : decide ((m : Int) ≥ 0) = true := decide_eq_true (by omega)
                have hd1 : decide ((m : Int) < (up.length : Int)) = true := decide_eq_true (by omega)
                have hd2 : decide (m < up.length) = true := decide_eq_true (by omega)
                have hm0 : (0 : Int) ≤ m := by omega
                have hm1 : (m : Int) < up.length := by omega
                have hm4 : (m : Int) ≤ 4000 := by have := HUL.out; omega
                have HM2 := Aside0.mk (show m ≤ up.length ∧ m + 1 = gk - 1 ∧ 0 < gk by have := HM.out; omega)
                have HPA := Aside0.mk (show pa ++ [ux] = (up.drop m).reverse by rw [← hpa, ← hux, hrd, List.drop_eq_getElem_cons (show m < up.length by omega), List.reverse_cons])
                clear hrd hux hpa hm HM
                go_upto_region 16 with (first | ((with_reducible refine gate_builtin (b := .append) (xs := #[.tmp 67, .tmp 72]) rfl ?_); at_builtin; refine Kd.R_append (Kd.int .i64) (w0 := w) w.heap.size rfl (.tmp 67) (.tmp 72) 28 3 (.int .i64 0) 8 rfl Try.underlying28 info3 rfl (by decide) (by omega) (.slice A10 pa.length c10) pa ux [.int .i64 ux] (fun _ => True) (fun _ => False) rfl rfl ?aP (fun _ hk => hk.elim) ?aF ?aO ?aB ?aS ?aL ?_; (case aP => exact rfl); (case aB => exact HPP.out.below); (case aF => exact (fun _ _ => trivial)); (case aO => exact HPP.out.row); (case aS => exact HPP.out.below.size); (case aL => omega); intro v8 w11 hr8 hb8 hg8 hm8; have HP8 := Aside0.mk (HPP.out.next hr8 hg8 hm8); clear hr8 hb8 hg8 hm8))
                go_wp2
                go_roundg (gk - 1)
                case measure => have := HM2.out; omega
                case rel => exact ⟨m, _, rfl, ⟨rfl, HM2.out.1, HM2.out.2.1⟩, ⟨by rw [← HPA.out]; exact HP8.out⟩⟩
          · obtain rfl : p = (P : Int) := by rw [HQ.out.1, e2]
            have hPn : P < ns.length := by have := HQ.out.2.2.2.1; omega
            obtain ⟨ad, A3, c3, e, hx0, _⟩ := at_T52 (Kd.C_below HR.out.1 HPT.out.below) (P : Int) (by omega) (by omega)
            subst e
            have hid : (rd_T52 ns (P : Int)).f0 = (ns.getD P z52).f0 := by simp [rd_T52, hPn]
            rw [hid, Int.toNat_natCast] at hx0
            generalize hpid : (ns.getD P z52).f0 = pid at hx0
            have hbox := blk_cell (HRP.out _ _ _ HPT.out).2 0
            generalize hil : idsOf ns L1 = il at *
            have hill : il.length ≤ 4000 := by
              have h1 := HL.out.2
              have h2 := congrArg List.length HQ.out.2.1
              rw [List.length_append] at h2
              rw [← hil]
              simp only [idsOf, List.length_map]
              omega
            have hd0 : decide ((P : Int) ≥ 0) = true := decide_eq_true (by omega)
            have hd1 : decide ((P : Int) < (ns.length : Int)) = true := decide_eq_true (by omega)
            have hd2 : decide (P < ns.length) = true := decide_eq_true (by omega)
            have hp0 : (0 : Int) ≤ P := by omega
            have hp1 : (P : Int) < ns.length := by omega
            have hp4 : (P : Int) ≤ 4000 := by have := HNN.out; omega
            have hsz9 := HPT.out.below.size
            have HA3 := Aside0.mk (And.intro hA3 (And.intro hPj e1))
            clear hA3 hPj e1 e2 hid
            go_upto_region 11 with (first | ((with_reducible refine gate_builtin (b := .append) (xs := #[.tmp 50, .tmp 57]) rfl ?_); at_builtin; refine Kd.R_append (Kd.int .i64) (w0 := w) w.heap.size rfl (.tmp 50) (.tmp 57) 28 3 (.int .i64 0) 8 rfl Try.underlying28 info3 rfl (by decide) (by omega) (.slice A9 il.length c9) il pid [.int .i64 pid] (fun _ => True) (fun _ => False) rfl rfl ?aP (fun _ hk => hk.elim) ?aF ?aO ?aB ?aS ?aL ?_; (case aP => exact rfl); (case aB => exact HPT.out.below); (case aF => exact (fun _ _ => trivial)); (case aO => exact HPT.out.row); (case aS => exact HPT.out.below.size); (case aL => omega); intro v8 w10 hr8 hb8 hg8 hm8; have HP8 := Aside0.mk (HPT.out.next hr8 hg8 hm8); have hx8 := HRD.out _ _ _ HP8.out P hPn; clear hr8 hb8 hg8 hm8))
            have HIL := Aside0.mk (show il ++ [pid] = idsOf ns (L1 ++ [P]) by rw [← hil, ← hpid]; simp [idsOf])
            have hr0 : decide ((P : Int) < (res.length : Int)) = true := decide_eq_true (by rw [HRES.out.1]; omega)
            have hr1 : decide (P < res.length) = true := decide_eq_true (by rw [HRES.out.1]; omega)
            have hr2 : (P : Int) < res.length := by rw [HRES.out.1]; omega
            have HQ8 := Aside0.mk (show rd res (P : Int) = rd res (P : Int) ∧ L = (L1 ++ [P]) ++ L3 ∧ Anc (kids ns) P L3 ∧ P < ns.length ∧ L3.length + 1 = gk - 1 ∧ 0 < gk by
              have h := HQ.out
              rw [HA3.out.2.2] at h
              refine ⟨rfl, by rw [h.2.1]; simp, HA3.out.1, hPn, by have := h.2.2.2.2; simp at this; omega, by have := h.2.2.2.2; omega⟩)
            clear hil hpid hd0 hd1 hd2 hbox hx0 hPn
            go_wp2
            go_roundg (gk - 1)
            case measure => have := HQ8.out.2.2.2.2.2; omega
            case rel => exact ⟨L1 ++ [P], L3, P, _, rfl, ⟨rfl, HQ8.out.2.1, HQ8.out.2.2.1, HQ8.out.2.2.2.1, HQ8.out.2.2.2.2.1⟩, ⟨by rw [← HIL.out]; exact HP8.out⟩⟩
end Go.Proofs.Ytcjaakbmabhmdaa.Impl
