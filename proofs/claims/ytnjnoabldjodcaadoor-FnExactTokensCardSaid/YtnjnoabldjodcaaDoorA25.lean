/- Part 25 of the proof: TokLaw, TokRow. -/
import Derived.Test.YtnjnoabldjodcaaDoorA21
import Derived.Test.YtnjnoabldjodcaaDoorA23
import Derived.Test.YtnjnoabldjodcaaDoorA24
import Derived.Test.YtnjnoabldjodcaaDoorRows
import Derived.WalkKit
import Derived.ProofKit
import Derived.OpenShut
import Derived.ShutString
import Derived.ChangeOld
import Derived.Below
import Derived.SizedLaws
import Derived.LaidMore
import Derived.Stop.Joined
import Derived.Shelf.Vars
import Derived.OpenVars
import Derived.ChangeVars
set_option linter.unusedVariables false
set_option linter.unusedSimpArgs false
namespace Go.Proofs.YtnjnoabldjodcaaDoor.Tok
open Go.RowKit Go.Proofs.YtnjnoabldjodcaaDoorW.PrintWords Go.Proofs.YtnjnoabldjodcaaDoorW.PrintLast Go.Proofs.YtnjnoabldjodcaaDoorW.PrintMore Go.Proofs.YtnjnoabldjodcaaDoor.PFnExactTokens
def answer (s raw : ByteArray) : List T := if 180000 < s.size then [] else implTok (B s) (2 * s.size + 4) 0 (B raw) [] []
theorem answer_fit (s raw : ByteArray) : Fit 180001 2097152 (answer s raw) := by
  unfold answer
  split
  · exact ⟨by simp, fun x hx => by cases hx⟩
  · have h := it_fit (B s) (2 * s.size + 4) 0 (B raw) [] [] 0 ⟨by simp, fun x hx => by cases hx⟩
    rw [B_length] at h
    exact ⟨by have := h.1; omega, fun x hx => by have := h.2 x hx; omega⟩
theorem specTokens_big (s raw : ByteArray) (w : World) (hs : 180000 < s.size) : Calls Tryd.prog 4 #[.string s, .string raw] w fun e w' => e = .returned (.slice (some ⟨w.heap.size, 0, none⟩) 0 0) ∧ w' = w.alloc (.cells #[] 36) := by
  have hd : decide (180000 < s.size) = true := decide_eq_true hs
  have hdi : decide ((180000 : Int) < (s.size : Int)) = true := decide_eq_true (by omega)
  clear hs
  go_enter Tryd.func4, Tryd.ntmps4
  go_wp2
  go_ret
  exact ⟨rfl, rfl⟩
theorem itokens_big (s raw : ByteArray) (w : World) (hs : 180000 < s.size) : Calls Tryd.prog 5 #[.string s, .string raw] w fun e w' => e = .returned (.slice none 0 0) ∧ w' = w := by
  have hd : decide (180000 < s.size) = true := decide_eq_true hs
  have hdi : decide ((180000 : Int) < (s.size : Int)) = true := decide_eq_true (by omega)
  clear hs
  go_enter Tryd.func5, Tryd.ntmps5
  go_wp2
  go_ret
  exact ⟨rfl, rfl⟩
theorem spec_ans (s raw : ByteArray) (w : World) (hr : raw.size < 2 ^ 40) : Calls Tryd.prog 4 #[.string s, .string raw] w fun e w' => ∃ v, e = .returned v ∧ TokAt w w' v (answer s raw) := by
  by_cases hs : 180000 < s.size
  · refine (specTokens_big s raw w hs).mono ?_
    rintro e w' ⟨rfl, rfl⟩
    refine ⟨_, rfl, ?_⟩
    unfold answer
    rw [if_pos hs]
    exact TokAt.lit
  · refine (specTokens_calls s raw w (by omega) hr).mono ?_
    rintro e w' ⟨v, rfl, h⟩
    refine ⟨v, rfl, ?_⟩
    have := same (B s) (B_byte s) (2 * s.size + 2) 0 (B raw) (B raw) [] [] (fun x hx => by cases hx) (fun x hx => by cases hx) (fun _ => rfl) (fun h => h) (by rw [B_length]; split <;> omega)
    rw [fl_nil, List.append_nil] at this
    unfold answer
    rw [if_neg hs, show 2 * s.size + 4 = 2 * s.size + 2 + 2 by omega, this]
    exact h
theorem impl_ans (s raw : ByteArray) (w : World) (hR : Refs w) (hM : MaxL w) (h1 : 1 < w.heap.size) : Calls Tryd.prog 5 #[.string s, .string raw] w fun e w' => ∃ v, e = .returned v ∧ ITokAt w w' v (answer s raw) := by
  by_cases hs : 180000 < s.size
  · refine (itokens_big s raw w hs).mono ?_
    rintro e w' ⟨rfl, rfl⟩
    refine ⟨_, rfl, ?_, Below.refl _ _⟩
    unfold answer
    rw [if_pos hs]
    exact Kd.S_nil _ _ _ _ _
  · refine (itokens_calls s raw w (by omega) hR hM h1).mono ?_
    rintro e w' ⟨v, rfl, h⟩
    refine ⟨v, rfl, ?_⟩
    unfold answer
    rw [if_neg hs]
    exact h
theorem Marked.pos {M : Int → ByteArray} {w : World} {base : Nat} {v : Value} {n : Nat} {r : Int} (h : Marked M w base v n r) : 0 < r := by
  rcases h with ⟨_, _, rfl⟩ | ⟨g, c, vs, ls, ys, _, _, _, h4, rfl, _⟩
  · decide
  · have := msf_le 1 ls h4 n
    omega
theorem refs_below {w w' : World} (h : Refs w) (hb : Below w.heap.size w w') : Refs w' := Refs.below h hb h.pos
theorem maxl_below {w w' : World} (h : MaxL w) (h1 : 1 < w.heap.size) (hb : Below w.heap.size w w') : MaxL w' := by
  obtain ⟨m, hm⟩ := h
  exact ⟨m, by rw [World.cell?_of_block (w := w) (w' := w') (hb.block 1 h1)]; exact hm⟩
set_option maxHeartbeats 8000000 in
set_option maxRecDepth 100000 in
theorem law_calls (s raw : ByteArray) (w : World) (hR : Refs w) (hM : MaxL w) (h1 : 1 < w.heap.size) : Calls Tryd.prog 3 #[.string s, .string raw] w fun e w' => e = .returned (.bool true) ∧ Below w.heap.size w w' := by
  by_cases hs : 1048576 < s.size
  · have hd : decide (1048576 < s.size) = true := decide_eq_true hs
    have hdi : decide ((1048576 : Int) < (s.size : Int)) = true := decide_eq_true (by omega)
    clear hs hR hM h1
    go_enter Tryd.func3, Tryd.ntmps3
    go_wp2
    go_ret
    exact ⟨rfl, Below.refl _ _⟩
  have hd : decide (1048576 < s.size) = false := decide_eq_false hs
  have hdi : decide ((1048576 : Int) < (s.size : Int)) = false := decide_eq_false (by omega)
  by_cases hr : 1048576 < raw.size
  · have hd' : decide (1048576 < raw.size) = true := decide_eq_true hr
    have hdi' : decide ((1048576 : Int) < (raw.size : Int)) = true := decide_eq_true (by omega)
    clear hs hr hR hM h1
    go_enter Tryd.func3, Tryd.ntmps3
    go_wp2
    go_ret
    exact ⟨rfl, Below.refl _ _⟩
  have hd' : decide (1048576 < raw.size) = false := decide_eq_false hr
  have hdi' : decide ((1048576 : Int) < (raw.size : Int)) = false := decide_eq_false (by omega)
  obtain ⟨M, hMF⟩ := markFn
  obtain ⟨R, hRe⟩ : ∃ R, R = answer s raw := ⟨_, rfl⟩
  have hfit := answer_fit s raw
  have HSP := Aside0.mk (fun W => spec_ans s raw W (by omega))
  have HIM := Aside0.mk (fun (W : World) (hW : Below w.heap.size w W) => impl_ans s raw W (refs_below hR hW) (maxl_below hM h1 hW) (by have := hW.size; omega))
  rw [← hRe] at hfit HSP HIM
  have HFIT := Aside0.mk hfit
  obtain ⟨ke, hke⟩ := (eqTokenS_f R (fun x hx => by have := hfit.2 x hx; omega) (by have := hfit.1; omega)).some
  have HEQ := Aside0.mk (fun (W : World) A1 c1 A2 c2 (h1 : Kd.C k36 W A1 R.length R) (h2 : R.length ≤ c1) (h3 : Kd.C k36 W A2 R.length R) (h4 : R.length ≤ c2) => laws_eqTokenS.calls ke A1 c1 R A2 c2 R true W h1 h2 h3 h4 hke)
  have HMK := Aside0.mk (fun (W : World) (v : Value) (ok : Nat → Prop) (hB : Below w.heap.size w W) (hS : Kd.S k36 36 W w.heap.size ok v R) => markTokenS_calls hMF v R w W ok hB hS hfit.1 (fun x hx => by have := hfit.2 x hx; omega))
  have HHE := Aside0.mk (fun (W : World) (v : Value) (r : Int) (h : Marked M W w.heap.size v R.length r) => heldTokenS_calls hMF v R.length r w.heap.size W h)
  obtain ⟨n, hn⟩ : ∃ n, n = R.length := ⟨_, rfl⟩
  have HN := Aside0.mk hn
  rw [← hn] at HEQ HMK HHE
  clear hs hr hR hM h1 hRe hfit hke hn
  go_enter Tryd.func3, Tryd.ntmps3
  go_upto_region 10 with (first | (go_at_call 4; refine (HSP.out _).mono ?_; rintro e w1 ⟨v1, rfl, h1⟩; have H1 := Aside0.mk h1; obtain ⟨A1, c1, rfl, hc1, hC1⟩ := Kd.R_reads h1.row; have HC1 := Aside0.mk (And.intro hc1 hC1); rw [← HN.out] at H1 HC1; rw [← HN.out]; clear h1 hc1 hC1) | (go_at_call 5; refine (HIM.out _ H1.out.below).mono ?_; rintro e w2 ⟨v2, rfl, h2⟩; have H2 := Aside0.mk h2; obtain ⟨A2, c2, rfl, hc2, hC2⟩ := Kd.S_reads h2.row; have HC2 := Aside0.mk (And.intro hc2 hC2); rw [← HN.out] at H2 HC2; rw [← HN.out]; have HB2 := Aside0.mk (bel_step H1.out.below h2.below); have HR2 := Aside0.mk (show Kd.R k36 36 w2 w.heap.size (fun k => k < w1.heap.size) (.slice A1 n c1) R from Kd.R_below (Kd.R_mono (Kd.R_bound H1.out.row) (fun k hk => hk.2.2.1)) h2.below); clear h2 hc2 hC2) | (go_at_call 6; refine (HEQ.out _ A2 c2 A1 c1 HC2.out.2 HC2.out.1 (Kd.C_below HC1.out.2 H2.out.below) HC1.out.1).mono ?_; rintro e w3 ⟨rfl, hb3⟩; have HB3 := Aside0.mk (bel_step HB2.out hb3); have HR3 := Aside0.mk (Kd.R_below HR2.out hb3); have HS3 := Aside0.mk (show Kd.S k36 36 w3 w.heap.size (fun k => w1.heap.size ≤ k) (.slice A2 n c2) R from Kd.S_below (Kd.S_lower (Kd.S_mono (Kd.S_bound H2.out.row) (fun k hk => hk.2.1)) H1.out.below.size) hb3); clear hb3))
  clear HSP
  go_upto_region 12 with ((go_at_call 7; refine (HMK.out _ _ (fun k => w1.heap.size ≤ k) HB3.out HS3.out).mono ?_; rintro e w4 ⟨r, rfl, hmk, hb4, hk4⟩; have HMD := Aside0.mk hmk; have HB4 := Aside0.mk hb4; have HR4 := Aside0.mk (show Kd.R k36 36 w4 w.heap.size (fun k => k < w1.heap.size) (.slice A1 n c1) R from Kd.R_step HR3.out (fun k hk hlt => hk4.2 k hlt (by omega))); clear hmk hb4 hk4))
  have hrp := HMD.out.pos
  have hrd : decide (r < 0) = false := decide_eq_false (by omega)
  go_upto_region 17 with ((go_at_call 8; refine (HHE.out _ _ _ HMD.out).mono ?_; rintro e w5 ⟨rfl, hb5⟩; have HB5 := Aside0.mk (bel_step HB4.out hb5); have HM5 := Aside0.mk (HMD.out.under hb5); have HR5 := Aside0.mk (Kd.R_below HR4.out hb5); clear hb5))
  clear HMD HR4 HR3 HS3 HMK H2 HC2 HC1
  go_upto_region 20 with (first | (go_at_call 5; refine (HIM.out _ HB5.out).mono ?_; rintro e w6 ⟨v6, rfl, h6⟩; obtain ⟨A6, c6, rfl, hc6, hC6⟩ := Kd.S_reads h6.row; have HC6 := Aside0.mk (And.intro hc6 hC6); rw [← HN.out] at HC6; rw [← HN.out]; have HB6 := Aside0.mk (bel_step HB5.out h6.below); have HM6 := Aside0.mk (HM5.out.under h6.below); have HR6 := Aside0.mk (Kd.R_below HR5.out h6.below); clear h6 hc6 hC6) | (go_at_call 6; obtain ⟨hq0, hq1, hq2⟩ := Kd.R_reads' HR6.out; clear hq0; rw [← HN.out] at hq2; refine (HEQ.out _ A6 c6 A1 c1 HC6.out.2 HC6.out.1 hq2 hq1).mono ?_; rintro e w7 ⟨rfl, hb7⟩; have HB7 := Aside0.mk (bel_step HB6.out hb7); have HM7 := Aside0.mk (HM6.out.under hb7); clear hb7 hq1 hq2))
  go_upto_region 22 with ((go_at_call 8; refine (HHE.out _ _ _ HM7.out).mono ?_; rintro e w8 ⟨rfl, hb8⟩; have HB8 := Aside0.mk (bel_step HB7.out hb8); clear hb8))
  go_upto_region 26 with (fail)
  go_wp2
  go_ret
  exact ⟨rfl, HB8.out⟩
end Go.Proofs.YtnjnoabldjodcaaDoor.Tok
set_option linter.unusedVariables false
namespace Go.Proofs.YtnjnoabldjodcaaDoor.TokRow
open Go.ChangeShapes Go.WideShapes Go.ChangeAt Go.RowKit Go.Proofs.YtnjnoabldjodcaaDoorW.PrintWords Go.Proofs.YtnjnoabldjodcaaDoorW.PrintLast Go.Proofs.YtnjnoabldjodcaaDoorW.PrintMore Go.Proofs.YtnjnoabldjodcaaDoor.PFnExactTokens Go.Proofs.YtnjnoabldjodcaaDoor.Tok
open Go.ChangeMaps (open_string shut_string)
theorem wrap {H : Type} {enc : TypeId × Value → H} {a : Assume} {C : Checked} {os : Os} {f : FuncId} {fn : Func} {s : ChangeSpec} {conds : List PathCond} {apart fresh handsOn again : Bool} {X : World → Array Value → Prop}
    (hX : ∀ (w w' : World) (args : Array Value), w.heap = w'.heap → X w args → X w' args)
    (own : ownKnob C.prog.godebug = none) (started : os.Started) (noInit : C.prog.inits.idxOf? f = none) (hfn : C.prog.funcs[f]? = some fn)
    (witness : ∃ (w : World) (tape : Tape) (i : Input), w.os = os ∧ (w.forCall tape i).Shaped C.prog ∧ i.vars = [] ∧ Input.okWide C.prog (w.forCall tape i) .any w.heap.size f i ∧
      ((s.pre enc C.prog fn conds apart (w.forCall tape i).memory i.args ∧ X (w.forCall tape i).memory i.args) ∧ sizedMet enc C.prog fn (OpenSpec.ofChange s) apart (w.forCall tape i).memory i.args) ∧ a.holds C.prog (lone (Frame.enter C.prog f i.args .normal) [] (w.forCall tape i)))
    (contract : ∀ (W : World) (base : Nat) (args : Array Value) (ds gs : List (DataW H)) (before : List MemPlace),
      (∀ (j : Nat) t v, fn.params[j]? = some t → args[j]? = some v → Value.okWide C.prog W .any base t v) →
      DataW.Whole enc C.prog fn.params.toList s.vars apart W args.toList ds gs before → X W args → W.ShapedOpen C.prog →
      Calls C.prog f args W fun e W' => ∃ v, e = .returned v ∧ s.post enc C.prog fn apart fresh handsOn again W args v W') :
    ReturnsInHanded a C os f .any (fun w args => (s.pre enc C.prog fn conds apart w args ∧ X w args) ∧ sizedMet enc C.prog fn (OpenSpec.ofChange s) apart w args) (s.post enc C.prog fn apart fresh handsOn again) := by
  refine returnsInHanded_of_calls own started noInit witness ?_
  intro w tape i _ hsh _ hok hpre hholds
  obtain ⟨_, _, _, fn', hfn', _, _, _, _, hval⟩ := hok
  have e : fn' = fn := Option.some.inj (hfn'.symm.trans hfn)
  subst e
  obtain ⟨⟨⟨ds, gs, before, hw, hc⟩, hx⟩, hz⟩ := hpre
  have hw' := DataW.Whole.of_heap (w' := w.forCall tape i) (by rfl) hw
  refine (contract (w.forCall tape i) w.heap.size i.args ds gs before hval hw' (hX _ _ _ (by rfl) hx) hsh).mono fun e W' ⟨v, he, hp⟩ => ?_
  subst he
  exact ChangeSpec.post_blind hp
theorem own : ownKnob Tryd.prog.godebug = none := by kernel_rfl
theorem laidOut : laidOutB Tryd.prog = true := by kernel_rfl
theorem gRefs : Tryd.prog.globalNamed "loop.example/g00011/impl.references" = some 0 := by kernel_rfl
theorem maxl_of {W : World} (h : W.ShapedOpen Tryd.prog) : MaxL W := by
  refine cell_of_shapedOpen_int (g := 1) (t := 3) (zero := #[.int .i64 0]) h (of_decide_eq_true (by kernel_rfl)) (by kernel_rfl) (by kernel_rfl) (by kernel_rfl) (by kernel_rfl) Tryd.underlying3
theorem door_met (os : Os) (args : Array Value) : laidMetH Tryd.prog Rows.fnExactTokensRow.laid ((World.doorLaid Tryd.prog 400 os).forCall (fun _ _ => 0) ⟨#[], args, []⟩).memory :=
  laidMetH_of_parts3 (fuel := 8) (laidMet_of_run' 8 (by kernel_rfl) (by kernel_rfl)) (by kernel_rfl) (by kernel_rfl)
def refRows : List (List UInt8 × Int) := [([97, 109, 112], 38), ([108, 116], 60), ([103, 116], 62), ([113, 117, 111, 116], 34), ([110, 98, 115, 112], 160), ([99, 111, 112, 121], 169), ([97, 112, 111, 115], 39), ([115, 104, 121], 173), ([116, 105, 109, 101, 115], 215), ([110, 100, 97, 115, 104], 8211), ([109, 100, 97, 115, 104], 8212), ([104, 101, 108, 108, 105, 112], 8230), ([101, 117, 114, 111], 8364), ([108, 114, 109], 8206), ([114, 108, 109], 8207), ([122, 119, 106], 8205)]
def rowData {H : Type} (x : List UInt8 × Int) : DataW H := .agg [.lit (.string x.1), .lit (.int .i64 x.2)]
def rowCells (x : List UInt8 × Int) : List Value := [.string ⟨x.1.toArray⟩, .int .i64 x.2]
theorem pairs {L : List Value} : ∀ {rs : List (List UInt8 × Int)}, L.length = rs.length * 2 → (∀ i x, rs[i]? = some x → (L.drop (i * 2)).take 2 = rowCells x) → L = rs.flatMap rowCells
  | [], h, _ => List.length_eq_zero_iff.1 (by simpa using h)
  | x :: rs, h, hf => by
    have h0 := hf 0 x rfl
    simp only [Nat.zero_mul, List.drop_zero] at h0
    have ih := pairs (L := L.drop 2) (rs := rs) (by rw [List.length_drop, h, List.length_cons]; omega) (fun i y hy => by
      have := hf (i + 1) y hy
      rw [List.drop_drop, show 2 + i * 2 = (i + 1) * 2 by omega]
      exact this)
    rw [List.flatMap_cons, ← ih, ← h0, List.take_append_drop]
set_option maxRecDepth 100000 in
theorem row_of {H : Type} {enc : TypeId × Value → H} {w : World} {base : Nat} {sp : Nat → Bool} {held : Bool} {fuel : Nat} {cs : List Value} {y : DataW H × List MemPlace} {x : List UInt8 × Int}
    (h : DataW.trod enc Tryd.prog w base sp held fuel 92 cs = some y) (hy : y.1 = rowData x) (hl : cs.length = 2) : cs = rowCells x := by
  obtain ⟨y0, y1, n, rfl, _, h0, h1⟩ := trod_struct2 Tryd.underlying92 h
  have c9 : Tryd.prog.cellsOf 9 = 1 := by kernel_rfl
  have c3 : Tryd.prog.cellsOf 3 = 1 := by kernel_rfl
  match cs, hl with
  | [a, b], _ =>
    obtain ⟨s, e0, rfl, _⟩ := DataW.trod_string Tryd.underlying9 h0
    obtain ⟨k, e1, rfl, _⟩ := DataW.trod_int Tryd.underlying3 h1
    simp [c9] at e0
    simp [c3] at e1
    simp [rowData] at hy
    obtain ⟨hy0, hy1⟩ := hy
    subst e0
    subst e1
    subst hy1
    unfold rowCells
    rw [← hy0]
theorem maxl_lt {W : World} (h : MaxL W) : 1 < W.heap.size := by
  obtain ⟨m, hm⟩ := h
  rcases Nat.lt_or_ge 1 W.heap.size with h1 | h1
  · exact h1
  · simp [World.cell?, Array.getElem?_eq_none h1] at hm
set_option maxRecDepth 100000 in
theorem refs_of {W : World} (h : laidMetH Tryd.prog Rows.fnExactTokensRow.laid W) : Refs W := by
  rw [MakeChecks.laidMetH_plain _ _ _ (by kernel_rfl)] at h
  obtain ⟨ps, ⟨g0, t0, cs0, f0, p0, q0, hg0, ht0, hv0, hd0, _⟩, _⟩ := h
  obtain rfl := Option.some.inj (gRefs.symm.trans hg0)
  obtain rfl := Option.some.inj ((show (Tryd.prog.globals[0]?).map (·.type) = some 93 by kernel_rfl).symm.trans ht0)
  obtain ⟨xs, m1, rfl, hx1, hlen, hn, hel⟩ := DataW.trod_array Tryd.underlying93 hd0
  have c92 : Tryd.prog.cellsOf 92 = 2 := by kernel_rfl
  have c93 : Tryd.prog.cellsOf 93 = 32 := by kernel_rfl
  rw [c93] at hlen
  simp only [Prod.mk.injEq] at hx1
  have hxs : xs.map (·.1) = refRows.map rowData := by
    have := hx1.1
    injection this with this
    exact this.symm
  have hcs : cs0.toList = refRows.flatMap rowCells := by
    refine pairs (by rw [hlen]; rfl) (fun i x hx => ?_)
    have hi : i < 16 := (List.getElem?_eq_some_iff.1 hx).1
    have h2 := hel i hi
    rw [c92] at h2
    have hy : (xs.map (·.1))[i]? = some (rowData x) := by rw [hxs, List.getElem?_map, hx]; rfl
    rw [List.getElem?_map] at hy
    cases hxi : xs[i]? with
    | none => rw [hxi] at hy; cases hy
    | some y =>
      rw [hxi] at hy h2
      exact row_of h2 (by simpa using hy) (by rw [List.length_take, List.length_drop, hlen]; omega)
  have hblk : ∃ t fr, W.heap[0]? = some (.cells cs0 t fr) := by
    unfold World.var? at hv0
    rw [gRefs] at hv0
    simp only [Option.bind_some] at hv0
    split at hv0
    · rename_i cs t fr hh
      injection hv0 with hv0
      subst hv0
      exact ⟨_, _, hh⟩
    · cases hv0
  have he : cs0 = refCells := by
    apply Array.ext'
    rw [hcs]
    rfl
  subst he
  exact hblk
set_option maxRecDepth 100000 in
theorem lifted (os : Os) (started : os.Started) (H : Type) (enc : TypeId × Value → H) :
    ReturnsInHanded {} Tryd.checked os 3 .any (fun w args => (Rows.fnExactTokensSpec.pre enc Tryd.prog Tryd.f3 [] false w args ∧ laidMetH Tryd.prog Rows.fnExactTokensRow.laid w) ∧ sizedMet enc Tryd.prog Tryd.f3 (OpenSpec.ofChange Rows.fnExactTokensSpec) false w args)
      (Rows.fnExactTokensSpec.post enc Tryd.prog Tryd.f3 false true false false) := by
  refine wrap (C := Tryd.checked) (X := fun w _ => laidMetH Tryd.prog Rows.fnExactTokensRow.laid w) (fun _ _ _ hh h => h.of_heap hh) own started (by kernel_rfl) Tryd.func3
    (ChangeSpec.witness_shaped (enc := enc) (C := Tryd.checked) (os := os) (X := fun w _ => laidMetH Tryd.prog Rows.fnExactTokensRow.laid w) false (World.doorLaid Tryd.prog 400 os) #[.string ByteArray.empty, .string ByteArray.empty] 8 rfl (World.shaped_of_RefB (by kernel_rfl) (by kernel_rfl)) (by kernel_rfl) (by kernel_rfl) (by kernel_rfl) (door_met os _)) ?_
  intro W base args ds gs before hval0 hW hL hsh
  have hval : ∀ (j : Nat) t v, Tryd.f3.params[j]? = some t → args[j]? = some v → Value.okWide Tryd.prog W .any base t v := hval0
  have hW' := hW
  obtain ⟨p, q, hA0, hV, rfl, hfz, hnd⟩ := hW
  have hA : DataW.TrodAll enc Tryd.prog W 0 (fun _ => true) true Tryd.f3.params.toList args.toList ds p := hA0
  rw [Tryd.params3] at hA hval
  obtain ⟨v0, vs0, d0, ds0, p0, q0, hargs, rfl, rfl, h0, r0⟩ := trodAll_cons hA
  obtain ⟨v1, vs1, d1, ds1, p1, q1, rfl, rfl, rfl, h1, r1⟩ := trodAll_cons r0
  obtain ⟨rfl, rfl, rfl⟩ := trodAll_nil r1
  obtain rfl : args = #[v0, v1] := by cases args; simp_all
  obtain ⟨a0, rfl, rfl, rfl, y0⟩ := open_string Tryd.underlying9 (hval 0 9 v0 rfl rfl) h0
  obtain ⟨a1, rfl, rfl, rfl, y1⟩ := open_string Tryd.underlying9 (hval 1 9 v1 rfl rfl) h1
  clear hA0 hval0
  have hV' : DataW.TrodVars enc Tryd.prog W (fun _ => true) ["loop.example/g00011/impl.references"] gs q := hV
  obtain ⟨g0, t0, cs0, fu0, dg, pg, hgs, _⟩ := trodVars_one hV'
  subst hgs
  refine (law_calls a0 a1 W (refs_of hL) (maxl_of hsh) (maxl_lt (maxl_of hsh))).mono fun e W' ⟨he, bel⟩ => ?_
  subst he
  exact ⟨_, rfl, _, _, _, [], _, _, hW', trodAll_mk1 (shut_bool Tryd.underlying4 _), (trodAll_cons_mk (shut_string Tryd.underlying9 y0) (trodAll_cons_mk (shut_string Tryd.underlying9 y1) trodAll_mk0)), Below.trodVars laidOut bel (by kernel_rfl) hV', bel.frame _, fun h => by cases h⟩
theorem over : Rows.FnExactTokensSaid :=
  OpenClaim.holds_of_wide 3 Tryd.f3 rfl rfl rfl rfl rfl rfl rfl ⟨rfl, rfl, rfl, rfl, rfl⟩ rfl rfl rfl rfl rfl (by kernel_rfl) Tryd.func3 (by kernel_rfl)
    (of_decide_eq_true (by kernel_rfl)) (by unfold Func.isWrapper; (rw [if_neg (by decide +kernel)]; exact ⟨rfl, rfl⟩))
    (fun os started H enc _ => lifted os started H enc)
end Go.Proofs.YtnjnoabldjodcaaDoor.TokRow
