/- Part 24 of the proof: TokStep, TokITok. -/
import Derived.Test.YtnjnoabldjodcaaDoorA23
set_option linter.unusedVariables false
set_option linter.unusedSimpArgs false
namespace Go.Proofs.YtnjnoabldjodcaaDoor.Tok
open Go.RowKit Go.Proofs.YtnjnoabldjodcaaDoorW.PrintWords Go.Proofs.YtnjnoabldjodcaaDoorW.PrintLast Go.Proofs.YtnjnoabldjodcaaDoorW.PrintMore Go.Proofs.YtnjnoabldjodcaaDoor.PFnExactTokens
theorem put_box {base : Nat} {ok : Nat → Prop} {w4 w5 : World} {b lo tb : Nat} {s : ByteArray} {j : Nat} {a v o : Value} {p : Bs} {out : List T} {bc : Array Value} (h : ScanAt base (fun k => ok k ∧ k < lo) w4 b s j a v o p out) (hb : Below w4.heap.size w4 w5) (htb : w5.heap[tb]? = some (.cells bc 36 (0, 0))) (h4 : w4.heap.size ≤ tb) (hlo : lo ≤ w4.heap.size) (hbl : base ≤ lo) (hok : ∀ k, lo ≤ k → ok k) (hl : out.length < 2 ^ 29)
    (kd : Int) (nm : ByteArray) (v2 : Value) (al : List A) (tx : ByteArray) (cl : Bool) (hv : AttrRow w4 lo v2 al) :
    Calls Tryd.prog 44 #[.pointer (some ⟨b, 0, none⟩), .agg #[.int .i64 kd, .string nm, v2, .string tx, .bool cl]] w5 fun e w' => ∃ a' v' o', e = .returned (.tuple #[]) ∧ ScanAt base ok w' b s j a' v' o' [] (out ++ fl p ++ [⟨kd, nm, al, tx, cl⟩]) ∧ Turned (fun k => k = b ∨ some k = v.ownBlock ∨ ok k) w4 w' ∧ w'.heap[tb]? = some (.cells bc 36 (0, 0)) := by
  have h5 : ScanAt base (fun k => (ok k ∧ k ≠ tb) ∧ some k ≠ v2.ownBlock) w5 b s j a v o p out := (h.mono (ok' := fun k => (ok k ∧ k ≠ tb) ∧ some k ≠ v2.ownBlock) (fun k hk hlt => ⟨⟨hk.1, by omega⟩, fun e => by have := (Kd.R_bound hv).1 k e.symm; have := this.2.1; have := hk.2; omega⟩)).under hb
  have hv5 : Kd.R k62 62 w5 base (fun k => ok k ∧ k ≠ tb) v2 al := Kd.R_below (Kd.R_lower (Kd.R_mono (Kd.R_bound hv) (fun k hk => ⟨hok k hk.2.1, by have := hk.2.2.1; omega⟩)) hbl) hb
  have hsz := hb.size
  refine (put_calls h5 (fun k hk => ⟨hok k (by omega), by have := blk_lt htb; omega⟩) hl kd nm al tx cl hv5).mono ?_
  rintro e w' ⟨a', v', o', rfl, h6, h7⟩
  have hbt : b ≠ tb := fun e => by
    have := h5.blk
    unfold Sc at this
    rw [e, htb] at this
    injection this with this
    injection this with _ this
    exact absurd this (by decide)
  refine ⟨a', v', o', rfl, h6.mono (fun k hk _ => hk.1), ((Turned.of_below hb).trans (h7.mono (fun k _ e => ?_))), (h7.block tb (blk_lt htb) (fun e => ?_)).trans htb⟩
  · rcases e with e | e | e
    · exact .inl e
    · exact .inr (.inl e)
    · exact .inr (.inr e.1)
  · rcases e with e | e | e
    · exact hbt e.symm
    · exact byte_ne h5.text htb (by decide) e
    · exact e.2 rfl
def StepPost (base : Nat) (ok : Nat → Prop) (w : World) (b : Nat) (s : ByteArray) (i : Nat) (v : Value) (p : Bs) (out : List T) (e : Ending) (w' : World) : Prop :=
  ∃ (a' v' o' : Value) (i' : Nat) (p' : Bs) (out' : List T) (nm : ByteArray), e = .returned (.string nm) ∧ ScanAt base ok w' b s i' a' v' o' p' out' ∧ Turned (fun k => k = b ∨ some k = v.ownBlock ∨ ok k) w w' ∧ i < i' ∧ i' ≤ s.size ∧
    (∀ f raw, ¬ 0 < rawKind raw → implTok (B s) (f + 1) i raw p out = implTok (B s) f i' (B nm) p' out') ∧ out'.length ≤ out.length + 2 ∧ p'.length ≤ p.length + 4 * s.size ∧ nm.size ≤ s.size
theorem tag_no {base : Nat} {ok : Nat → Prop} {w W : World} {b j : Nat} {s : ByteArray} {a v o : Value} {p : Bs} {out : List T} (h : ScanAt base ok W b s j a v o p out) (hT : Turned (fun k => k = b) w W) (hs : s.size < 2 ^ 30) (hj : j ≤ s.size) (hR : Refs w) (hb0 : b ≠ 0) (kd : Int) {nm : ByteArray} (hn : nm = nameOf (B s) j) {R : List A × Bool × Option Nat} (hr : R = tagOf (B s) j) (hq : R.2.2 = none) :
    Calls Tryd.prog 43 #[.pointer (some ⟨b, 0, none⟩), .int .i64 kd] W fun e w' => ∃ A2 l2 al cl, e = .returned (.tuple #[.agg #[.int .i64 kd, .string nm, .slice A2 (List.length (α := A) al) l2, .string ⟨#[]⟩, .bool cl], .bool false]) ∧ ScanAt base ok w' b s s.size a v o p out ∧ Turned (fun k => k = b) w w' := by
  refine (tag_calls_i s (by omega) b j hj a v o W h.blk (hR.turned hT (fun e => hb0 e.symm)) hb0 kd).mono ?_
  rintro e w' ⟨v2, al, cl, hrow, ht, h1, h2⟩
  obtain ⟨A2, l2, e2⟩ := Kd.R_slice hrow
  subst e2
  rw [← hn, ← hr] at h1
  obtain ⟨rfl, hc⟩ := h1 hq
  exact ⟨A2, l2, al, cl, rfl, h.move hc ht, hT.trans ht⟩
theorem tag_yes {base : Nat} {ok : Nat → Prop} {w W : World} {b j : Nat} {s : ByteArray} {a v o : Value} {p : Bs} {out : List T} (h : ScanAt base ok W b s j a v o p out) (hT : Turned (fun k => k = b) w W) (hs : s.size < 2 ^ 30) (hj : j ≤ s.size) (hR : Refs w) (hb0 : b ≠ 0) (kd : Int) {nm : ByteArray} (hn : nm = nameOf (B s) j) {al : List A} {cl : Bool} {e1 : Nat} (hq : tagOf (B s) j = (al, cl, some e1)) :
    Calls Tryd.prog 43 #[.pointer (some ⟨b, 0, none⟩), .int .i64 kd] W fun e w' => ∃ A2 l2, e = .returned (.tuple #[.agg #[.int .i64 kd, .string nm, .slice A2 al.length l2, .string ⟨#[]⟩, .bool cl], .bool true]) ∧ AttrRow w' w.heap.size (.slice A2 al.length l2) al ∧ ScanAt base ok w' b s e1 a v o p out ∧ Turned (fun k => k = b) w w' := by
  refine (tag_calls_i s (by omega) b j hj a v o W h.blk (hR.turned hT (fun e => hb0 e.symm)) hb0 kd).mono ?_
  rintro e w' ⟨v2, al2, cl2, hrow, ht, h1, h2⟩
  obtain ⟨A2, l2, e2⟩ := Kd.R_slice hrow
  subst e2
  rw [← hn, hq] at h2
  obtain ⟨h3, rfl, hc⟩ := h2 e1 rfl
  injection h3 with h4 h5
  injection h5 with h5 h6
  subst h4
  subst h5
  exact ⟨A2, l2, rfl, Kd.R_lower hrow hT.size, h.move hc ht, hT.trans ht⟩
theorem fl_le (p : Bs) : (fl p).length ≤ 1 := by unfold fl; split <;> simp
theorem out_le (out : List T) (p : Bs) (x : T) : (out ++ fl p ++ [x]).length ≤ out.length + 2 := by
  have := fl_le p
  simp only [List.length_append, List.length_singleton]
  omega
theorem B_nil : B ⟨#[]⟩ = [] := by decide
set_option maxHeartbeats 8000000 in
set_option maxRecDepth 100000 in
theorem step_2 {base : Nat} {ok : Nat → Prop} {w : World} {b : Nat} {s : ByteArray} {i : Nat} {a v o : Value} {p : Bs} {out : List T} (h : ScanAt base ok w b s i a v o p out) (hok : ∀ k, w.heap.size ≤ k → ok k) (hl : out.length < 2 ^ 28) (hs : s.size < 2 ^ 30) (hi : i < s.size) (hR : Refs w) (hM : MaxL w) (hb0 : b ≠ 0) (hb1 : b ≠ 1) (h1 : 1 < w.heap.size) (hp : p.length < 2 ^ 39) (hbg : beg (B s) i = 2) :
    Calls Tryd.prog 20 #[.pointer (some ⟨b, 0, none⟩)] w (StepPost base ok w b s i v p out) := by
  have H := Aside0.mk (h.mono (ok' := fun k => ok k ∧ k < w.heap.size) (fun k hk hlt => ⟨hk, hlt⟩))
  have HOK := Aside0.mk hok
  have HL := Aside0.mk hl
  have HS := Aside0.mk hs
  have HI := Aside0.mk hi
  have HREF := Aside0.mk hR
  have HMX := Aside0.mk hM
  have HB0 := Aside0.mk hb0
  have HB1 := Aside0.mk hb1
  have HW1 := Aside0.mk h1
  have HP := Aside0.mk hp
  have HIL := Aside0.mk (show i < (B s).length by rw [B_length]; exact hi)
  have HBG := Aside0.mk hbg
  have hii : (i : Int) < 1073741824 := by omega
  obtain ⟨r, hr⟩ : ∃ r, r = s.extract i s.size := ⟨_, rfl⟩
  have HREST := Aside0.mk (fun (W : World) (hb : Sc W b s i a v o) => by have := rest_calls s b i (by omega) a v o W hb; rw [← hr] at this; exact this)
  have HBEG := Aside0.mk (fun W => begins_calls r (by rw [hr, rest_size]; omega) W)
  rw [show beg (B r) 0 = beg (B s) i by rw [hr, B_rest, beg_drop _ _ (by rw [B_length]; omega)], hbg] at HBEG
  have hut := Tryd.underlying36
  have HIN := Aside0.mk (show i + 1 < s.size by have := beg_next (L := B s) (i := i) (by rw [hbg]; decide); rw [B_length] at this; omega)
  obtain ⟨nm, hnm⟩ : ∃ nm, nm = nameOf (B s) (i + 1) := ⟨_, rfl⟩
  have HNM := Aside0.mk hnm
  have HNS := Aside0.mk (show nm.size ≤ s.size by rw [hnm]; have := nameOf_size (B s) (i + 1); rwa [B_length] at this)
  obtain ⟨Q, hQ⟩ : ∃ Q, Q = tagOf (B s) (i + 1) := ⟨_, rfl⟩
  have HQ := Aside0.mk hQ
  obtain ⟨Qa, Qc, Qe⟩ := Q
  clear h hok hl hs hi hR hM hb0 hb1 h1 hp hr hbg hQ hnm
  cases Qe with
  | none =>
    go_enter Tryd.func20, Tryd.ntmps20
    go_wp2_with (first | (go_at_call 36; refine (HREST.out _ H.out.blk).mono ?_; rintro e w1 ⟨rfl, n1, hw1⟩; have HC1 := Aside0.mk (show ScanAt base (fun k => ok k ∧ k < w.heap.size) w1 b s i a v o p out by rw [hw1]; exact H.out.drewN n1); have HT1 := Aside0.mk (show Turned (fun k => k = b) w w1 by rw [hw1]; exact (Turned.refl _ _).drewN n1); clear hw1) | (go_at_call 42; refine (HBEG.out _).mono ?_; rintro e w2 ⟨rfl, hb2⟩; have HC2 := Aside0.mk (HC1.out.under hb2); have HT2 := Aside0.mk (HT1.out.trans (Turned.of_below hb2)); have c2 := HC2.out.blk.c1; have f2 := HC2.out.blk.f1; have d2 := HC2.out.blk.c0; clear hb2) | (go_at_call 43; refine (tag_no (HC2.out.at_ (i + 1)) (HT2.out.at_ _ _) HS.out (by have := HIN.out; omega) HREF.out HB0.out 2 HNM.out HQ.out rfl).mono ?_; rintro e w4 ⟨A2, l2, al, cl, rfl, hc, ht⟩; have HC4 := Aside0.mk hc; have HT4 := Aside0.mk ht; clear hc ht))
    go_ret
    exact ⟨a, v, o, s.size, p, out, ⟨#[]⟩, rfl, (HC4.out.mono (fun k hk _ => hk.1)).under (below_one _ _), (HT4.out.trans (Turned.of_below (below_one _ _))).mono (fun _ _ e => .inl e), HI.out, Nat.le_refl _, fun f raw hr => by rw [B_nil, ← B_length]; exact it_2n hr HIL.out HBG.out (by rw [← HQ.out]) f, by omega, by omega, Nat.zero_le _⟩
  | some e1 =>
    go_enter Tryd.func20, Tryd.ntmps20
    go_wp2_with (first | (go_at_call 36; refine (HREST.out _ H.out.blk).mono ?_; rintro e w1 ⟨rfl, n1, hw1⟩; have HC1 := Aside0.mk (show ScanAt base (fun k => ok k ∧ k < w.heap.size) w1 b s i a v o p out by rw [hw1]; exact H.out.drewN n1); have HT1 := Aside0.mk (show Turned (fun k => k = b) w w1 by rw [hw1]; exact (Turned.refl _ _).drewN n1); clear hw1) | (go_at_call 42; refine (HBEG.out _).mono ?_; rintro e w2 ⟨rfl, hb2⟩; have HC2 := Aside0.mk (HC1.out.under hb2); have HT2 := Aside0.mk (HT1.out.trans (Turned.of_below hb2)); have c2 := HC2.out.blk.c1; have f2 := HC2.out.blk.f1; have d2 := HC2.out.blk.c0; clear hb2) | (go_at_call 43; refine (tag_yes (HC2.out.at_ (i + 1)) (HT2.out.at_ _ _) HS.out (by have := HIN.out; omega) HREF.out HB0.out 2 HNM.out HQ.out.symm).mono ?_; rintro e w4 ⟨A2, l2, rfl, hrow, hc, ht⟩; have HC4 := Aside0.mk hc; have HT4 := Aside0.mk ht; have HR4 := Aside0.mk hrow; clear hc ht hrow) | (go_at_call 44; refine (put_box HC4.out (below_one w4 _) (heap_alloc_new w4 _) (Nat.le_refl _) HT4.out.size H.out.lt HOK.out (by have := HL.out; omega) 2 nm _ Qa ⟨#[]⟩ Qc HR4.out).mono ?_; rintro e w5 ⟨a5, v5, o5, rfl, h5, t5, b5⟩; have k5 : w5.cell? ⟨w4.heap.size, 1, none⟩ = some (.string nm) := blk_cell b5 1; have H5 := Aside0.mk h5; have T5 := Aside0.mk t5; clear h5 t5 b5))
    go_ret
    exact ⟨a5, v5, o5, e1, [], out ++ fl p ++ [⟨2, nm, Qa, ⟨#[]⟩, Qc⟩], nm, rfl, H5.out, (HT4.out.mono (fun _ _ e => .inl e)).trans T5.out, by have := tagOf_gt (L := B s) (i := i + 1) (e := e1) (by rw [← HQ.out]); omega, by rw [← B_length]; exact tagOf_le (i := i + 1) (by rw [← HQ.out]), fun f raw hr => by rw [HNM.out]; exact it_2 hr HIL.out HBG.out HQ.out.symm f, out_le _ _ _, by simp, HNS.out⟩
set_option maxHeartbeats 8000000 in
set_option maxRecDepth 100000 in
theorem step_3 {base : Nat} {ok : Nat → Prop} {w : World} {b : Nat} {s : ByteArray} {i : Nat} {a v o : Value} {p : Bs} {out : List T} (h : ScanAt base ok w b s i a v o p out) (hok : ∀ k, w.heap.size ≤ k → ok k) (hl : out.length < 2 ^ 28) (hs : s.size < 2 ^ 30) (hi : i < s.size) (hR : Refs w) (hM : MaxL w) (hb0 : b ≠ 0) (hb1 : b ≠ 1) (h1 : 1 < w.heap.size) (hp : p.length < 2 ^ 39) (hbg : beg (B s) i = 3) :
    Calls Tryd.prog 20 #[.pointer (some ⟨b, 0, none⟩)] w (StepPost base ok w b s i v p out) := by
  have H := Aside0.mk (h.mono (ok' := fun k => ok k ∧ k < w.heap.size) (fun k hk hlt => ⟨hk, hlt⟩))
  have HOK := Aside0.mk hok
  have HL := Aside0.mk hl
  have HS := Aside0.mk hs
  have HI := Aside0.mk hi
  have HREF := Aside0.mk hR
  have HMX := Aside0.mk hM
  have HB0 := Aside0.mk hb0
  have HB1 := Aside0.mk hb1
  have HW1 := Aside0.mk h1
  have HP := Aside0.mk hp
  have HIL := Aside0.mk (show i < (B s).length by rw [B_length]; exact hi)
  have HBG := Aside0.mk hbg
  have hii : (i : Int) < 1073741824 := by omega
  obtain ⟨r, hr⟩ : ∃ r, r = s.extract i s.size := ⟨_, rfl⟩
  have HREST := Aside0.mk (fun (W : World) (hb : Sc W b s i a v o) => by have := rest_calls s b i (by omega) a v o W hb; rw [← hr] at this; exact this)
  have HBEG := Aside0.mk (fun W => begins_calls r (by rw [hr, rest_size]; omega) W)
  rw [show beg (B r) 0 = beg (B s) i by rw [hr, B_rest, beg_drop _ _ (by rw [B_length]; omega)], hbg] at HBEG
  have hut := Tryd.underlying36
  have HIN := Aside0.mk (show i + 2 < s.size by have := beg_37 (L := B s) (i := i) (.inl hbg); rw [B_length] at this; omega)
  obtain ⟨nm, hnm⟩ : ∃ nm, nm = nameOf (B s) (i + 2) := ⟨_, rfl⟩
  have HNM := Aside0.mk hnm
  have HNS := Aside0.mk (show nm.size ≤ s.size by rw [hnm]; have := nameOf_size (B s) (i + 2); rwa [B_length] at this)
  obtain ⟨Q, hQ⟩ : ∃ Q, Q = tagOf (B s) (i + 2) := ⟨_, rfl⟩
  have HQ := Aside0.mk hQ
  obtain ⟨Qa, Qc, Qe⟩ := Q
  clear h hok hl hs hi hR hM hb0 hb1 h1 hp hr hbg hQ hnm
  cases Qe with
  | none =>
    go_enter Tryd.func20, Tryd.ntmps20
    go_wp2_with (first | (go_at_call 36; refine (HREST.out _ H.out.blk).mono ?_; rintro e w1 ⟨rfl, n1, hw1⟩; have HC1 := Aside0.mk (show ScanAt base (fun k => ok k ∧ k < w.heap.size) w1 b s i a v o p out by rw [hw1]; exact H.out.drewN n1); have HT1 := Aside0.mk (show Turned (fun k => k = b) w w1 by rw [hw1]; exact (Turned.refl _ _).drewN n1); clear hw1) | (go_at_call 42; refine (HBEG.out _).mono ?_; rintro e w2 ⟨rfl, hb2⟩; have HC2 := Aside0.mk (HC1.out.under hb2); have HT2 := Aside0.mk (HT1.out.trans (Turned.of_below hb2)); have c2 := HC2.out.blk.c1; have f2 := HC2.out.blk.f1; have d2 := HC2.out.blk.c0; clear hb2) | (go_at_call 43; refine (tag_no (HC2.out.at_ (i + 2)) (HT2.out.at_ _ _) HS.out (by have := HIN.out; omega) HREF.out HB0.out 3 HNM.out HQ.out rfl).mono ?_; rintro e w4 ⟨A2, l2, al, cl, rfl, hc, ht⟩; have HC4 := Aside0.mk hc; have HT4 := Aside0.mk ht; clear hc ht))
    go_ret
    exact ⟨a, v, o, s.size, p, out, ⟨#[]⟩, rfl, (HC4.out.mono (fun k hk _ => hk.1)).under (below_one _ _), (HT4.out.trans (Turned.of_below (below_one _ _))).mono (fun _ _ e => .inl e), HI.out, Nat.le_refl _, fun f raw hr => by rw [B_nil, ← B_length]; exact it_3n hr HIL.out HBG.out (by rw [← HQ.out]) f, by omega, by omega, Nat.zero_le _⟩
  | some e1 =>
    go_enter Tryd.func20, Tryd.ntmps20
    go_wp2_with (first | (go_at_call 36; refine (HREST.out _ H.out.blk).mono ?_; rintro e w1 ⟨rfl, n1, hw1⟩; have HC1 := Aside0.mk (show ScanAt base (fun k => ok k ∧ k < w.heap.size) w1 b s i a v o p out by rw [hw1]; exact H.out.drewN n1); have HT1 := Aside0.mk (show Turned (fun k => k = b) w w1 by rw [hw1]; exact (Turned.refl _ _).drewN n1); clear hw1) | (go_at_call 42; refine (HBEG.out _).mono ?_; rintro e w2 ⟨rfl, hb2⟩; have HC2 := Aside0.mk (HC1.out.under hb2); have HT2 := Aside0.mk (HT1.out.trans (Turned.of_below hb2)); have c2 := HC2.out.blk.c1; have f2 := HC2.out.blk.f1; have d2 := HC2.out.blk.c0; clear hb2) | (go_at_call 43; refine (tag_yes (HC2.out.at_ (i + 2)) (HT2.out.at_ _ _) HS.out (by have := HIN.out; omega) HREF.out HB0.out 3 HNM.out HQ.out.symm).mono ?_; rintro e w4 ⟨A2, l2, rfl, hrow, hc, ht⟩; have HC4 := Aside0.mk hc; have HT4 := Aside0.mk ht; have HR4 := Aside0.mk hrow; clear hc ht hrow) | (go_at_call 44; refine (put_box HC4.out (below_one w4 _) (heap_alloc_new w4 _) (Nat.le_refl _) HT4.out.size H.out.lt HOK.out (by have := HL.out; omega) 3 nm (.slice none 0 0) [] ⟨#[]⟩ false (Kd.R_nil _ _ _ _ _)).mono ?_; rintro e w5 ⟨a5, v5, o5, rfl, h5, t5, b5⟩; have H5 := Aside0.mk h5; have T5 := Aside0.mk t5; clear h5 t5 b5))
    go_ret
    exact ⟨a5, v5, o5, e1, [], out ++ fl p ++ [⟨3, nm, [], ⟨#[]⟩, false⟩], ⟨#[]⟩, rfl, H5.out, (HT4.out.mono (fun _ _ e => .inl e)).trans T5.out, by have := tagOf_gt (L := B s) (i := i + 2) (e := e1) (by rw [← HQ.out]); omega, by rw [← B_length]; exact tagOf_le (i := i + 2) (by rw [← HQ.out]), fun f raw hr => by rw [B_nil, HNM.out]; exact it_3 hr HIL.out HBG.out (by rw [← HQ.out]) f, out_le _ _ _, by simp, Nat.zero_le _⟩
set_option maxHeartbeats 8000000 in
set_option maxRecDepth 100000 in
theorem step_4 {base : Nat} {ok : Nat → Prop} {w : World} {b : Nat} {s : ByteArray} {i : Nat} {a v o : Value} {p : Bs} {out : List T} (h : ScanAt base ok w b s i a v o p out) (hok : ∀ k, w.heap.size ≤ k → ok k) (hl : out.length < 2 ^ 28) (hs : s.size < 2 ^ 30) (hi : i < s.size) (hR : Refs w) (hM : MaxL w) (hb0 : b ≠ 0) (hb1 : b ≠ 1) (h1 : 1 < w.heap.size) (hp : p.length < 2 ^ 39) (hbg : beg (B s) i = 4) :
    Calls Tryd.prog 20 #[.pointer (some ⟨b, 0, none⟩)] w (StepPost base ok w b s i v p out) := by
  have H := Aside0.mk h
  have HOK := Aside0.mk hok
  have HL := Aside0.mk hl
  have HS := Aside0.mk hs
  have HI := Aside0.mk hi
  have HREF := Aside0.mk hR
  have HMX := Aside0.mk hM
  have HB0 := Aside0.mk hb0
  have HB1 := Aside0.mk hb1
  have HW1 := Aside0.mk h1
  have HP := Aside0.mk hp
  have HIL := Aside0.mk (show i < (B s).length by rw [B_length]; exact hi)
  have HBG := Aside0.mk hbg
  have hii : (i : Int) < 1073741824 := by omega
  obtain ⟨r, hr⟩ : ∃ r, r = s.extract i s.size := ⟨_, rfl⟩
  have HREST := Aside0.mk (fun (W : World) (hb : Sc W b s i a v o) => by have := rest_calls s b i (by omega) a v o W hb; rw [← hr] at this; exact this)
  have HBEG := Aside0.mk (fun W => begins_calls r (by rw [hr, rest_size]; omega) W)
  rw [show beg (B r) 0 = beg (B s) i by rw [hr, B_rest, beg_drop _ _ (by rw [B_length]; omega)], hbg] at HBEG
  have HI4 := Aside0.mk (show i + 4 ≤ s.size by have := beg_4 hbg; rwa [B_length] at this)
  clear h hok hl hs hi hR hM hb0 hb1 h1 hp hr hbg
  go_enter Tryd.func20, Tryd.ntmps20
  go_wp2_with (first | (go_at_call 36; refine (HREST.out _ H.out.blk).mono ?_; rintro e w1 ⟨rfl, n1, hw1⟩; have HC1 := Aside0.mk (show ScanAt base ok w1 b s i a v o p out by rw [hw1]; exact H.out.drewN n1); have HT1 := Aside0.mk (show Turned (fun k => k = b) w w1 by rw [hw1]; exact (Turned.refl _ _).drewN n1); clear hw1) | (go_at_call 42; refine (HBEG.out _).mono ?_; rintro e w2 ⟨rfl, hb2⟩; have HC2 := Aside0.mk (HC1.out.under hb2); have HT2 := Aside0.mk (HT1.out.trans (Turned.of_below hb2)); have c2 := HC2.out.blk.c1; have f2 := HC2.out.blk.f1; have d2 := HC2.out.blk.c0; clear hb2) | (go_at_call 45; refine (comment_calls HC2.out (fun k hk => HOK.out k (Nat.le_trans HT2.out.size hk)) (by have := HL.out; omega) HS.out HI4.out (HMX.out.turned HT2.out (fun e => HB1.out e.symm) HW1.out) HB1.out (by have := HT2.out.size; have := HW1.out; omega)).mono ?_; rintro e w5 ⟨a5, v5, o5, rfl, h5, t5⟩; have H5 := Aside0.mk h5; have T5 := Aside0.mk t5; clear h5 t5))
  go_ret
  exact ⟨a5, v5, o5, _, [], _, ⟨#[]⟩, rfl, H5.out, (HT2.out.mono (fun _ _ e => .inl e)).trans T5.out, by have := commentI_ge (B s) (i + 4) (by rw [B_length]; exact HI4.out); omega, by have := commentI_le (L := B s) (i := i + 4) (by rw [B_length]; exact HI4.out); rwa [B_length] at this, fun f raw hr => by rw [B_nil]; exact it_4 hr HIL.out HBG.out f, out_le _ _ _, by simp, Nat.zero_le _⟩
set_option maxHeartbeats 8000000 in
set_option maxRecDepth 100000 in
theorem step_7 {base : Nat} {ok : Nat → Prop} {w : World} {b : Nat} {s : ByteArray} {i : Nat} {a v o : Value} {p : Bs} {out : List T} (h : ScanAt base ok w b s i a v o p out) (hok : ∀ k, w.heap.size ≤ k → ok k) (hl : out.length < 2 ^ 28) (hs : s.size < 2 ^ 30) (hi : i < s.size) (hR : Refs w) (hM : MaxL w) (hb0 : b ≠ 0) (hb1 : b ≠ 1) (h1 : 1 < w.heap.size) (hp : p.length < 2 ^ 39) (hbg : beg (B s) i = 7) :
    Calls Tryd.prog 20 #[.pointer (some ⟨b, 0, none⟩)] w (StepPost base ok w b s i v p out) := by
  have H := Aside0.mk h
  have HOK := Aside0.mk hok
  have HL := Aside0.mk hl
  have HS := Aside0.mk hs
  have HI := Aside0.mk hi
  have HREF := Aside0.mk hR
  have HMX := Aside0.mk hM
  have HB0 := Aside0.mk hb0
  have HB1 := Aside0.mk hb1
  have HW1 := Aside0.mk h1
  have HP := Aside0.mk hp
  have HIL := Aside0.mk (show i < (B s).length by rw [B_length]; exact hi)
  have HBG := Aside0.mk hbg
  have hii : (i : Int) < 1073741824 := by omega
  obtain ⟨r, hr⟩ : ∃ r, r = s.extract i s.size := ⟨_, rfl⟩
  have HREST := Aside0.mk (fun (W : World) (hb : Sc W b s i a v o) => by have := rest_calls s b i (by omega) a v o W hb; rw [← hr] at this; exact this)
  have HBEG := Aside0.mk (fun W => begins_calls r (by rw [hr, rest_size]; omega) W)
  rw [show beg (B r) 0 = beg (B s) i by rw [hr, B_rest, beg_drop _ _ (by rw [B_length]; omega)], hbg] at HBEG
  have HI3 := Aside0.mk (show i + 3 ≤ s.size by have := beg_37 (L := B s) (i := i) (.inr hbg); rw [B_length] at this; omega)
  clear h hok hl hs hi hR hM hb0 hb1 h1 hp hr hbg
  go_enter Tryd.func20, Tryd.ntmps20
  go_wp2_with (first | (go_at_call 36; refine (HREST.out _ H.out.blk).mono ?_; rintro e w1 ⟨rfl, n1, hw1⟩; have HC1 := Aside0.mk (show ScanAt base ok w1 b s i a v o p out by rw [hw1]; exact H.out.drewN n1); have HT1 := Aside0.mk (show Turned (fun k => k = b) w w1 by rw [hw1]; exact (Turned.refl _ _).drewN n1); clear hw1) | (go_at_call 42; refine (HBEG.out _).mono ?_; rintro e w2 ⟨rfl, hb2⟩; have HC2 := Aside0.mk (HC1.out.under hb2); have HT2 := Aside0.mk (HT1.out.trans (Turned.of_below hb2)); have c2 := HC2.out.blk.c1; have f2 := HC2.out.blk.f1; have d2 := HC2.out.blk.c0; clear hb2))
  go_ret
  exact ⟨a, v, o, i + 3, p, out, ⟨#[]⟩, rfl, HC2.out.at_ (i + 3), (HT2.out.at_ _ _).mono (fun _ _ e => .inl e), by omega, HI3.out, fun f raw hr => by rw [B_nil]; exact it_7 hr HIL.out HBG.out f, by omega, by omega, Nat.zero_le _⟩
set_option maxHeartbeats 8000000 in
set_option maxRecDepth 100000 in
theorem step_0 {base : Nat} {ok : Nat → Prop} {w : World} {b : Nat} {s : ByteArray} {i : Nat} {a v o : Value} {p : Bs} {out : List T} (h : ScanAt base ok w b s i a v o p out) (hok : ∀ k, w.heap.size ≤ k → ok k) (hl : out.length < 2 ^ 28) (hs : s.size < 2 ^ 30) (hi : i < s.size) (hR : Refs w) (hM : MaxL w) (hb0 : b ≠ 0) (hb1 : b ≠ 1) (h1 : 1 < w.heap.size) (hp : p.length < 2 ^ 39) (hbg : beg (B s) i = 0) :
    Calls Tryd.prog 20 #[.pointer (some ⟨b, 0, none⟩)] w (StepPost base ok w b s i v p out) := by
  have H := Aside0.mk h
  have HOK := Aside0.mk hok
  have HL := Aside0.mk hl
  have HS := Aside0.mk hs
  have HI := Aside0.mk hi
  have HREF := Aside0.mk hR
  have HMX := Aside0.mk hM
  have HB0 := Aside0.mk hb0
  have HB1 := Aside0.mk hb1
  have HW1 := Aside0.mk h1
  have HP := Aside0.mk hp
  have HIL := Aside0.mk (show i < (B s).length by rw [B_length]; exact hi)
  have HBG := Aside0.mk hbg
  have hii : (i : Int) < 1073741824 := by omega
  obtain ⟨r, hr⟩ : ∃ r, r = s.extract i s.size := ⟨_, rfl⟩
  have HREST := Aside0.mk (fun (W : World) (hb : Sc W b s i a v o) => by have := rest_calls s b i (by omega) a v o W hb; rw [← hr] at this; exact this)
  have HBEG := Aside0.mk (fun W => begins_calls r (by rw [hr, rest_size]; omega) W)
  rw [show beg (B r) 0 = beg (B s) i by rw [hr, B_rest, beg_drop _ _ (by rw [B_length]; omega)], hbg] at HBEG
  clear h hok hl hs hi hR hM hb0 hb1 h1 hp hr hbg
  go_enter Tryd.func20, Tryd.ntmps20
  go_wp2_with (first | (go_at_call 36; refine (HREST.out _ H.out.blk).mono ?_; rintro e w1 ⟨rfl, n1, hw1⟩; have HC1 := Aside0.mk (show ScanAt base ok w1 b s i a v o p out by rw [hw1]; exact H.out.drewN n1); have HT1 := Aside0.mk (show Turned (fun k => k = b) w w1 by rw [hw1]; exact (Turned.refl _ _).drewN n1); clear hw1) | (go_at_call 42; refine (HBEG.out _).mono ?_; rintro e w2 ⟨rfl, hb2⟩; have HC2 := Aside0.mk (HC1.out.under hb2); have HT2 := Aside0.mk (HT1.out.trans (Turned.of_below hb2)); have c2 := HC2.out.blk.c1; have f2 := HC2.out.blk.f1; have d2 := HC2.out.blk.c0; clear hb2) | (go_at_call 48; refine (plain_calls HC2.out HS.out (Nat.le_of_lt HI.out) (HREF.out.turned HT2.out (fun e => HB0.out e.symm)) HB0.out (by have := HP.out; omega)).mono ?_; rintro e w5 ⟨a5, v5, rfl, h5, t5⟩; have H5 := Aside0.mk h5; have T5 := Aside0.mk t5; clear h5 t5))
  go_ret
  refine ⟨a5, v5, o, _, _, out, ⟨#[]⟩, rfl, H5.out, (HT2.out.mono (fun _ _ e => .inl e)).trans (T5.out.mono (fun _ _ e => e.elim .inl (fun e => .inr (.inl e)))), ?_, ?_, fun f raw hr => by rw [B_nil, ← B_length]; exact it_0 hr HIL.out HBG.out f, by omega, ?_, Nat.zero_le _⟩
  · rw [← B_length, txI_go HIL.out HBG.out]
    have := txI_ge (B s) ((B s).length - (i + 1)) (i + 1)
    omega
  · have := txI_le (B s) (s.size - i) i
    have := HI.out
    omega
  · rw [List.length_append]
    have h1 := refs_len false (part (B s) i (txI (B s) (s.size - i) i))
    have h2 := part_le (B s) i (txI (B s) (s.size - i) i)
    rw [B_length] at h2
    omega
set_option maxHeartbeats 8000000 in
set_option maxRecDepth 100000 in
theorem step_5 {base : Nat} {ok : Nat → Prop} {w : World} {b : Nat} {s : ByteArray} {i : Nat} {a v o : Value} {p : Bs} {out : List T} (h : ScanAt base ok w b s i a v o p out) (hok : ∀ k, w.heap.size ≤ k → ok k) (hl : out.length < 2 ^ 28) (hs : s.size < 2 ^ 30) (hi : i < s.size) (hR : Refs w) (hM : MaxL w) (hb0 : b ≠ 0) (hb1 : b ≠ 1) (h1 : 1 < w.heap.size) (hp : p.length < 2 ^ 39) (hbg : beg (B s) i = 5) :
    Calls Tryd.prog 20 #[.pointer (some ⟨b, 0, none⟩)] w (StepPost base ok w b s i v p out) := by
  have H := Aside0.mk h
  have HOK := Aside0.mk hok
  have HL := Aside0.mk hl
  have HS := Aside0.mk hs
  have HI := Aside0.mk hi
  have HREF := Aside0.mk hR
  have HMX := Aside0.mk hM
  have HB0 := Aside0.mk hb0
  have HB1 := Aside0.mk hb1
  have HW1 := Aside0.mk h1
  have HP := Aside0.mk hp
  have HIL := Aside0.mk (show i < (B s).length by rw [B_length]; exact hi)
  have HBG := Aside0.mk hbg
  have hii : (i : Int) < 1073741824 := by omega
  obtain ⟨r, hr⟩ : ∃ r, r = s.extract i s.size := ⟨_, rfl⟩
  have HREST := Aside0.mk (fun (W : World) (hb : Sc W b s i a v o) => by have := rest_calls s b i (by omega) a v o W hb; rw [← hr] at this; exact this)
  have HBEG := Aside0.mk (fun W => begins_calls r (by rw [hr, rest_size]; omega) W)
  rw [show beg (B r) 0 = beg (B s) i by rw [hr, B_rest, beg_drop _ _ (by rw [B_length]; omega)], hbg] at HBEG
  have HI9 := Aside0.mk (show i + 9 ≤ s.size by have := beg_5 hbg; rwa [B_length] at this)
  obtain ⟨J, hJ⟩ : ∃ J, J = fd (B s) 62 (i + 9) := ⟨_, rfl⟩
  obtain ⟨K, hK⟩ : ∃ K, K = behind (B s) J := ⟨_, rfl⟩
  have HJ := Aside0.mk hJ
  have HK := Aside0.mk hK
  have HJS := Aside0.mk (show J ≤ s.size by rw [hJ, ← B_length]; exact fd_le (by rw [B_length]; exact HI9.out))
  have HJG := Aside0.mk (show i + 9 ≤ J by rw [hJ]; exact fd_ge _ _ _)
  have HKS := Aside0.mk (show K ≤ s.size by rw [hK, ← B_length]; exact behind_le (by rw [B_length]; exact HJS.out))
  have HKG := Aside0.mk (show J ≤ K by rw [hK]; exact behind_ge _ _)
  obtain ⟨u, hu⟩ : ∃ u, u = S (part (B s) (i + 9) J) := ⟨_, rfl⟩
  have HUP := Aside0.mk (fun (W : World) (hc : Sc W b s (i + 9) a v o) => upTo_calls s (by omega) b (i + 9) HI9.out a v o W hc)
  rw [← hJ, ← hK, ← hu] at HUP
  have hus : u.size < 2 ^ 30 := by rw [hu, S_size]; have := part_le (B s) (i + 9) J; rw [B_length] at this; omega
  have HWD := Aside0.mk (fun W => word_calls u hus W)
  obtain ⟨x, hx⟩ : ∃ x, x = wordOf u := ⟨_, rfl⟩
  rw [← hx] at HWD
  have hBu : B u = part (B s) (i + 9) J := by rw [hu, B_S (part_byte _ _ _)]
  have hxs : x.size < 2 ^ 40 := by
    rw [← B_length, hx, word_is]
    have := part_le (B u) (ov (B u) 0) (un (B u) [] (ov (B u) 0))
    rw [B_length u] at this
    omega
  have HLW := Aside0.mk (fun W => lower_calls x hxs W)
  obtain ⟨y, hy⟩ : ∃ y, y = S (low (B x)) := ⟨_, rfl⟩
  rw [← hy] at HLW
  have HY := Aside0.mk (show docName (part (B s) (i + 9) J) = y by rw [← hBu, doc_is, ← hx, hy])
  clear h hok hl hs hi hR hM hb0 hb1 h1 hp hr hbg hJ hK hu hus hx hBu hxs hy
  go_enter Tryd.func20, Tryd.ntmps20
  go_wp2_with (first | (go_at_call 36; refine (HREST.out _ H.out.blk).mono ?_; rintro e w1 ⟨rfl, n1, hw1⟩; have HC1 := Aside0.mk (show ScanAt base ok w1 b s i a v o p out by rw [hw1]; exact H.out.drewN n1); have HT1 := Aside0.mk (show Turned (fun k => k = b) w w1 by rw [hw1]; exact (Turned.refl _ _).drewN n1); clear hw1) | (go_at_call 42; refine (HBEG.out _).mono ?_; rintro e w2 ⟨rfl, hb2⟩; have HC2 := Aside0.mk (HC1.out.under hb2); have HT2 := Aside0.mk (HT1.out.trans (Turned.of_below hb2)); have c2 := HC2.out.blk.c1; have f2 := HC2.out.blk.f1; have d2 := HC2.out.blk.c0; clear hb2) | (go_at_call 47; refine (HUP.out _ (HC2.out.blk.at_ (i + 9))).mono ?_; rintro e w4 ⟨rfl, hc, ht⟩; have HC4 := Aside0.mk ((HC2.out.at_ (i + 9)).move hc ht); have HT4 := Aside0.mk ((HT2.out.at_ _ _).trans ht); clear hc ht) | (go_at_call 46; refine (HWD.out _).mono ?_; rintro e w5 ⟨rfl, hb5⟩; have HC5 := Aside0.mk (HC4.out.under hb5); have HT5 := Aside0.mk (HT4.out.trans (Turned.of_below hb5)); clear hb5) | (go_at_call 38; refine (HLW.out _).mono ?_; rintro e w6 ⟨rfl, hb6⟩; have HC6 := Aside0.mk (HC5.out.under hb6); have HT6 := Aside0.mk (HT5.out.trans (Turned.of_below hb6)); clear hb6) | (go_at_call 44; refine (put_com HC6.out (fun k hk => HOK.out k (Nat.le_trans HT6.out.size hk)) (by have := HL.out; omega) 5 y ⟨#[]⟩).mono ?_; rintro e w7 ⟨a7, v7, o7, rfl, h7, t7⟩; have H7 := Aside0.mk h7; have T7 := Aside0.mk t7; clear h7 t7))
  go_ret
  exact ⟨a7, v7, o7, K, [], _, ⟨#[]⟩, rfl, H7.out, (HT6.out.mono (fun _ _ e => .inl e)).trans T7.out, by have := HJG.out; have := HKG.out; omega, HKS.out, fun f raw hr => by rw [B_nil, HK.out, HJ.out, ← HY.out, HJ.out]; exact it_5 hr HIL.out HBG.out f, out_le _ _ _, by simp, Nat.zero_le _⟩
set_option maxHeartbeats 8000000 in
set_option maxRecDepth 100000 in
theorem step_6 {base : Nat} {ok : Nat → Prop} {w : World} {b : Nat} {s : ByteArray} {i : Nat} {a v o : Value} {p : Bs} {out : List T} (h : ScanAt base ok w b s i a v o p out) (hok : ∀ k, w.heap.size ≤ k → ok k) (hl : out.length < 2 ^ 28) (hs : s.size < 2 ^ 30) (hi : i < s.size) (hR : Refs w) (hM : MaxL w) (hb0 : b ≠ 0) (hb1 : b ≠ 1) (h1 : 1 < w.heap.size) (hp : p.length < 2 ^ 39) (hbg : beg (B s) i = 6) :
    Calls Tryd.prog 20 #[.pointer (some ⟨b, 0, none⟩)] w (StepPost base ok w b s i v p out) := by
  have H := Aside0.mk h
  have HOK := Aside0.mk hok
  have HL := Aside0.mk hl
  have HS := Aside0.mk hs
  have HI := Aside0.mk hi
  have HREF := Aside0.mk hR
  have HMX := Aside0.mk hM
  have HB0 := Aside0.mk hb0
  have HB1 := Aside0.mk hb1
  have HW1 := Aside0.mk h1
  have HP := Aside0.mk hp
  have HIL := Aside0.mk (show i < (B s).length by rw [B_length]; exact hi)
  have HBG := Aside0.mk hbg
  have hii : (i : Int) < 1073741824 := by omega
  obtain ⟨r, hr⟩ : ∃ r, r = s.extract i s.size := ⟨_, rfl⟩
  have HREST := Aside0.mk (fun (W : World) (hb : Sc W b s i a v o) => by have := rest_calls s b i (by omega) a v o W hb; rw [← hr] at this; exact this)
  have HBEG := Aside0.mk (fun W => begins_calls r (by rw [hr, rest_size]; omega) W)
  rw [show beg (B r) 0 = beg (B s) i by rw [hr, B_rest, beg_drop _ _ (by rw [B_length]; omega)], hbg] at HBEG
  have HI1 := Aside0.mk (show i + 1 < s.size by have := beg_next (L := B s) (i := i) (by rw [hbg]; decide); rwa [B_length] at this)
  have hx := bt_at s ((i + 1 : Nat) : Int)
  rw [Int.toNat_natCast] at hx
  have hi1 : i + 1 < s.size := HI1.out
  have hi1i : (i : Int) + 1 < (s.size : Int) := by omega
  obtain ⟨c, hc⟩ : ∃ c, c = bt s ((i + 1 : Nat) : Int) := ⟨_, rfl⟩
  have HGC := Aside0.mk (show (B s)[i + 1]? = some c by rw [hc]; exact B_get s (i + 1) hi1)
  rw [← hc] at hx
  have htn : ((i : Int) + 1).toNat = i + 1 := by omega
  have HUP := Aside0.mk (fun (W : World) (j : Nat) (hj : j ≤ s.size) (hc : Sc W b s j a v o) => upTo_calls s (by omega) b j hj a v o W hc)
  clear h hok hl hs hi hR hM hb0 hb1 h1 hp hr hbg hc
  rcases h63 : (c == 63) with _ | _
  · have H63 := Aside0.mk (beq_eq_false_iff_ne.1 h63)
    have hn63 : (c != 63) = true := by rw [bne, h63]; rfl
    have HJJ := Aside0.mk (show (if (B s)[i + 1]? = some 63 then i + 1 else i + 2) = i + 2 by rw [HGC.out]; exact if_neg (fun h => H63.out (by injection h)))
    obtain ⟨J, hJ⟩ : ∃ J, J = fd (B s) 62 (i + 2) := ⟨_, rfl⟩
    obtain ⟨K, hK⟩ : ∃ K, K = behind (B s) J := ⟨_, rfl⟩
    have HI9 := Aside0.mk (show i + 2 ≤ s.size by have := HI1.out; omega)
    have HJ := Aside0.mk hJ
    have HK := Aside0.mk hK
    have HJS := Aside0.mk (show J ≤ s.size by rw [hJ, ← B_length]; exact fd_le (by rw [B_length]; exact HI9.out))
    have HJG := Aside0.mk (show i + 2 ≤ J by rw [hJ]; exact fd_ge _ _ _)
    have HKS := Aside0.mk (show K ≤ s.size by rw [hK, ← B_length]; exact behind_le (by rw [B_length]; exact HJS.out))
    have HKG := Aside0.mk (show J ≤ K by rw [hK]; exact behind_ge _ _)
    obtain ⟨u, hu⟩ : ∃ u, u = S (part (B s) (i + 2) J) := ⟨_, rfl⟩
    have HUQ := Aside0.mk (fun (W : World) (hc : Sc W b s (i + 2) a v o) => HUP.out W (i + 2) HI9.out hc)
    rw [← hJ, ← hK, ← hu] at HUQ
    have HU := Aside0.mk hu
    clear hJ hK hu h63 HUP
    go_enter Tryd.func20, Tryd.ntmps20
    go_wp2_with (first | (go_at_call 36; refine (HREST.out _ H.out.blk).mono ?_; rintro e w1 ⟨rfl, n1, hw1⟩; have HC1 := Aside0.mk (show ScanAt base ok w1 b s i a v o p out by rw [hw1]; exact H.out.drewN n1); have HT1 := Aside0.mk (show Turned (fun k => k = b) w w1 by rw [hw1]; exact (Turned.refl _ _).drewN n1); clear hw1) | (go_at_call 42; refine (HBEG.out _).mono ?_; rintro e w2 ⟨rfl, hb2⟩; have HC2 := Aside0.mk (HC1.out.under hb2); have HT2 := Aside0.mk (HT1.out.trans (Turned.of_below hb2)); have c2 := HC2.out.blk.c1; have f2 := HC2.out.blk.f1; have d2 := HC2.out.blk.c0; clear hb2))
    go_quiet (fail)
    go_wp2_with (first | (go_at_call 47; refine (HUQ.out _ (((HC2.out.at_ (i + 1)).drewN _).at_ (i + 2)).blk).mono ?_; rintro e w4 ⟨rfl, hc, ht⟩; have HC4 := Aside0.mk ((((HC2.out.at_ (i + 1)).drewN _).at_ (i + 2)).move hc ht); have HT4 := Aside0.mk ((((HT2.out.at_ _ _).drewN _).at_ _ _).trans ht); clear hc ht) | (go_at_call 44; refine (put_com HC4.out (fun k hk => HOK.out k (Nat.le_trans HT4.out.size hk)) (by have := HL.out; omega) 4 ⟨#[]⟩ u).mono ?_; rintro e w7 ⟨a7, v7, o7, rfl, h7, t7⟩; have H7 := Aside0.mk h7; have T7 := Aside0.mk t7; clear h7 t7))
    go_ret
    exact ⟨a7, v7, o7, K, [], _, ⟨#[]⟩, rfl, H7.out, (HT4.out.mono (fun _ _ e => .inl e)).trans T7.out, by have := HJG.out; have := HKG.out; omega, HKS.out, fun f raw hr => by rw [B_nil, HK.out, HU.out, HJ.out]; exact it_6 hr HIL.out HBG.out HJJ.out f, out_le _ _ _, by simp, Nat.zero_le _⟩
  · have H63 := Aside0.mk (beq_iff_eq.1 h63)
    have hn63 : (c != 63) = false := by rw [bne, h63]; rfl
    have HJJ := Aside0.mk (show (if (B s)[i + 1]? = some 63 then i + 1 else i + 2) = i + 1 by rw [HGC.out]; exact if_pos (by rw [H63.out]))
    obtain ⟨J, hJ⟩ : ∃ J, J = fd (B s) 62 (i + 1) := ⟨_, rfl⟩
    obtain ⟨K, hK⟩ : ∃ K, K = behind (B s) J := ⟨_, rfl⟩
    have HI9 := Aside0.mk (show i + 1 ≤ s.size by have := HI1.out; omega)
    have HJ := Aside0.mk hJ
    have HK := Aside0.mk hK
    have HJS := Aside0.mk (show J ≤ s.size by rw [hJ, ← B_length]; exact fd_le (by rw [B_length]; exact HI9.out))
    have HJG := Aside0.mk (show i + 1 ≤ J by rw [hJ]; exact fd_ge _ _ _)
    have HKS := Aside0.mk (show K ≤ s.size by rw [hK, ← B_length]; exact behind_le (by rw [B_length]; exact HJS.out))
    have HKG := Aside0.mk (show J ≤ K by rw [hK]; exact behind_ge _ _)
    obtain ⟨u, hu⟩ : ∃ u, u = S (part (B s) (i + 1) J) := ⟨_, rfl⟩
    have HUQ := Aside0.mk (fun (W : World) (hc : Sc W b s (i + 1) a v o) => HUP.out W (i + 1) HI9.out hc)
    rw [← hJ, ← hK, ← hu] at HUQ
    have HU := Aside0.mk hu
    clear hJ hK hu h63 HUP
    go_enter Tryd.func20, Tryd.ntmps20
    go_wp2_with (first | (go_at_call 36; refine (HREST.out _ H.out.blk).mono ?_; rintro e w1 ⟨rfl, n1, hw1⟩; have HC1 := Aside0.mk (show ScanAt base ok w1 b s i a v o p out by rw [hw1]; exact H.out.drewN n1); have HT1 := Aside0.mk (show Turned (fun k => k = b) w w1 by rw [hw1]; exact (Turned.refl _ _).drewN n1); clear hw1) | (go_at_call 42; refine (HBEG.out _).mono ?_; rintro e w2 ⟨rfl, hb2⟩; have HC2 := Aside0.mk (HC1.out.under hb2); have HT2 := Aside0.mk (HT1.out.trans (Turned.of_below hb2)); have c2 := HC2.out.blk.c1; have f2 := HC2.out.blk.f1; have d2 := HC2.out.blk.c0; clear hb2))
    go_quiet (fail)
    go_wp2_with (first | (go_at_call 47; refine (HUQ.out _ ((HC2.out.at_ (i + 1)).drewN _).blk).mono ?_; rintro e w4 ⟨rfl, hc, ht⟩; have HC4 := Aside0.mk (((HC2.out.at_ (i + 1)).drewN _).move hc ht); have HT4 := Aside0.mk (((HT2.out.at_ _ _).drewN _).trans ht); clear hc ht) | (go_at_call 44; refine (put_com HC4.out (fun k hk => HOK.out k (Nat.le_trans HT4.out.size hk)) (by have := HL.out; omega) 4 ⟨#[]⟩ u).mono ?_; rintro e w7 ⟨a7, v7, o7, rfl, h7, t7⟩; have H7 := Aside0.mk h7; have T7 := Aside0.mk t7; clear h7 t7))
    go_ret
    exact ⟨a7, v7, o7, K, [], _, ⟨#[]⟩, rfl, H7.out, (HT4.out.mono (fun _ _ e => .inl e)).trans T7.out, by have := HJG.out; have := HKG.out; omega, HKS.out, fun f raw hr => by rw [B_nil, HK.out, HU.out, HJ.out]; exact it_6 hr HIL.out HBG.out HJJ.out f, out_le _ _ _, by simp, Nat.zero_le _⟩
theorem step_calls {base : Nat} {ok : Nat → Prop} {w : World} {b : Nat} {s : ByteArray} {i : Nat} {a v o : Value} {p : Bs} {out : List T} (h : ScanAt base ok w b s i a v o p out) (hok : ∀ k, w.heap.size ≤ k → ok k) (hl : out.length < 2 ^ 28) (hs : s.size < 2 ^ 30) (hi : i < s.size) (hR : Refs w) (hM : MaxL w) (hb0 : b ≠ 0) (hb1 : b ≠ 1) (h1 : 1 < w.heap.size) (hp : p.length < 2 ^ 39) :
    Calls Tryd.prog 20 #[.pointer (some ⟨b, 0, none⟩)] w (StepPost base ok w b s i v p out) := by
  rcases beg_cases (B s) i with e | e | e | e | e | e | e
  · exact step_0 h hok hl hs hi hR hM hb0 hb1 h1 hp e
  · exact step_2 h hok hl hs hi hR hM hb0 hb1 h1 hp e
  · exact step_3 h hok hl hs hi hR hM hb0 hb1 h1 hp e
  · exact step_4 h hok hl hs hi hR hM hb0 hb1 h1 hp e
  · exact step_5 h hok hl hs hi hR hM hb0 hb1 h1 hp e
  · exact step_6 h hok hl hs hi hR hM hb0 hb1 h1 hp e
  · exact step_7 h hok hl hs hi hR hM hb0 hb1 h1 hp e
end Go.Proofs.YtnjnoabldjodcaaDoor.Tok
set_option linter.unusedVariables false
set_option linter.unusedSimpArgs false
namespace Go.Proofs.YtnjnoabldjodcaaDoor.Tok
open Go.RowKit Go.Proofs.YtnjnoabldjodcaaDoorW.PrintWords Go.Proofs.YtnjnoabldjodcaaDoorW.PrintLast Go.Proofs.YtnjnoabldjodcaaDoorW.PrintMore Go.Proofs.YtnjnoabldjodcaaDoor.PFnExactTokens
theorem it_stop {L : Bs} {i : Nat} {raw p : Bs} {out : List T} (hr : ¬ 0 < rawKind raw) (hi : L.length ≤ i) (f : Nat) : implTok L f i raw p out = out ++ fl p := by
  cases f with
  | zero => rfl
  | succ f =>
    simp only [implTok]
    rw [if_neg hr, if_neg (by omega)]
theorem rawKind_size {n : Bs} (h : 0 < rawKind n) : n.length ≤ 8 := by
  unfold rawKind at h
  split at h
  · rename_i h2
    rcases h2 with rfl | rfl <;> simp
  · split at h
    · rename_i h2
      rcases h2 with rfl | rfl <;> simp
    · omega
structure ITokAt (w wr : World) (v : Value) (out : List T) : Prop where
  row : Kd.S k36 36 wr w.heap.size (fun _ => True) v out
  below : Below w.heap.size w wr
structure LoopAt (w wr : World) (b : Nat) (s : ByteArray) (F : Nat) (R : List T) (kq : Nat) (rw_ : ByteArray) (i : Nat) (a v o : Value) (p : Bs) (out : List T) : Prop where
  at_ : ScanAt w.heap.size (fun k => w.heap.size ≤ k) wr b s i a v o p out
  below : Below w.heap.size w wr
  eq : implTok (B s) kq i (B rw_) p out = R
  ho : out.length ≤ 2 * (F - kq)
  hp : p.length ≤ 720000 * (F - kq)
  hk : kq ≤ F
  hi : i ≤ s.size
  hm : 2 * (s.size - i) + (if 0 < rawKind (B rw_) then 1 else 0) < kq
section
variable {w wr w' : World} {b : Nat} {s : ByteArray} {F : Nat} {R : List T} {g : Nat} {rw_ : ByteArray} {i : Nat} {a v o a' v' : Value} {p : Bs} {out : List T}
theorem LoopAt.refs (h : LoopAt w wr b s F R g rw_ i a v o p out) (hR : Refs w) : Refs wr := Refs.below hR h.below hR.pos
theorem LoopAt.maxl (h : LoopAt w wr b s F R g rw_ i a v o p out) (hM : MaxL w) (h1 : 1 < w.heap.size) : MaxL wr := by
  obtain ⟨m, hm⟩ := hM
  exact ⟨m, by rw [World.cell?_of_block (w := w) (w' := wr) (h.below.block 1 h1)]; exact hm⟩
theorem below_turned {S : Nat → Prop} (h : Below w.heap.size w wr) (ht : Turned S wr w') (hS : ∀ k, S k → w.heap.size ≤ k) : Below w.heap.size w w' := h.trans (ht.below h.size (fun k _ hk => hS k hk))
theorem LoopAt.raw (h : LoopAt w wr b s F R (g + 1) rw_ i a v o p out) (hs : s.size ≤ 180000) (hr : 0 < rawKind (B rw_)) (h2 : ScanAt w.heap.size (fun k => w.heap.size ≤ k) w' b s (clI (B s) (B rw_) (s.size - i) i) a' v' o (p ++ rawText (B rw_) (part (B s) i (clI (B s) (B rw_) (s.size - i) i))) out) (ht : Turned (fun k => k = b ∨ some k = v.ownBlock) wr w') :
    LoopAt w w' b s F R g ⟨#[]⟩ (clI (B s) (B rw_) (s.size - i) i) a' v' o (p ++ rawText (B rw_) (part (B s) i (clI (B s) (B rw_) (s.size - i) i))) out := by
  have hL : (B s).length = s.size := B_length s
  have hge := clI_ge (B s) (B rw_) (s.size - i) i (by have := h.hi; omega)
  have hle := clI_le (B s) (B rw_) (s.size - i) i (by have := h.hi; omega)
  refine ⟨h2, below_turned h.below ht (fun k e => ?_), ?_, ?_, ?_, ?_, by omega, ?_⟩
  · rcases e with e | e
    · rw [e]; exact h.at_.bb
    · exact (byte_lt h.at_.text e.symm).1
  · rw [← h.eq, it_raw hr, B_nil, hL]
  · have := h.ho; omega
  · rw [List.length_append]
    have h3 : (rawText (B rw_) (part (B s) i (clI (B s) (B rw_) (s.size - i) i))).length ≤ 4 * s.size := by
      have h4 := part_le (B s) i (clI (B s) (B rw_) (s.size - i) i)
      unfold rawText
      split
      · have := refs_len false (part (B s) i (clI (B s) (B rw_) (s.size - i) i)); omega
      · omega
    have := h.hp
    have := h.hk
    omega
  · have := h.hk; omega
  · have := h.hm
    rw [if_pos hr] at this
    rw [B_nil, if_neg (by rw [rawKind_nil]; omega)]
    omega
theorem LoopAt.step (h : LoopAt w wr b s F R (g + 1) rw_ i a v o p out) (hs : s.size ≤ 180000) (hr : ¬ 0 < rawKind (B rw_)) {e : Ending} (h2 : StepPost w.heap.size (fun k => w.heap.size ≤ k) wr b s i v p out e w') :
    ∃ nm i' a' v' o' p' out', e = .returned (.string nm) ∧ LoopAt w w' b s F R g nm i' a' v' o' p' out' := by
  obtain ⟨a', v', o', i', p', out', nm, he, hsc, ht, hlt, hle, heq, hlo, hlp, hln⟩ := h2
  refine ⟨nm, i', a', v', o', p', out', he, hsc, below_turned h.below ht (fun k e => ?_), ?_, ?_, ?_, ?_, hle, ?_⟩
  · rcases e with e | e | e
    · rw [e]; exact h.at_.bb
    · exact (byte_lt h.at_.text e.symm).1
    · exact e
  · rw [← heq g (B rw_) hr]; exact h.eq
  · have := h.ho; have := h.hk; omega
  · have := h.hp; have := h.hk; omega
  · have := h.hk; omega
  · have := h.hm
    rw [if_neg hr] at this
    split <;> omega
end
set_option maxHeartbeats 8000000 in
set_option maxRecDepth 100000 in
theorem itokens_calls (s raw : ByteArray) (w : World) (hs : s.size ≤ 180000) (hR : Refs w) (hM : MaxL w) (h1 : 1 < w.heap.size) : Calls Tryd.prog 5 #[.string s, .string raw] w fun e w' => ∃ v, e = .returned v ∧ ITokAt w w' v (implTok (B s) (2 * s.size + 4) 0 (B raw) [] []) := by
  obtain ⟨F, hF⟩ : ∃ F, F = 2 * s.size + 4 := ⟨_, rfl⟩
  rw [← hF]
  have HF := Aside0.mk hF
  obtain ⟨R, hR_⟩ : ∃ R, R = implTok (B s) F 0 (B raw) [] [] := ⟨_, rfl⟩
  rw [← hR_]
  have HR := Aside0.mk hR_
  have HREF := Aside0.mk hR
  have HMX := Aside0.mk hM
  have HW1 := Aside0.mk h1
  have HS := Aside0.mk hs
  have hds : decide (180000 < s.size) = false := decide_eq_false (by omega)
  have hdsi : decide ((180000 : Int) < (s.size : Int)) = false := decide_eq_false (by omega)
  obtain ⟨big, hbig⟩ : ∃ big : Int, big = 1073741824 := ⟨_, rfl⟩
  have hsb : (s.size : Int) < big := by omega
  have hbig2 : big ≤ 4611686018427387904 := by omega
  clear hF hR hR_ hM h1 hs hbig
  go_enter Tryd.func5, Tryd.ntmps5
  go_wp2
  generalize hw1 : World.alloc _ _ = w1
  obtain ⟨b, hb⟩ : ∃ b, b = w.heap.size := ⟨_, rfl⟩
  have HL := Aside0.mk (show LoopAt w w1 b s F R F raw 0 (.pointer none) (.slice none 0 0) (.slice none 0 0) [] [] from by
    rw [← hw1, hb]
    exact ⟨⟨heap_alloc_new _ _, .inl rfl, Kd.R_nil _ _ _ _ _, Kd.S_nil _ _ _ _ _, (fun x hx => by cases hx), Nat.le_refl _⟩, below_one _ _, HR.out.symm, by simp, by simp, Nat.le_refl _, Nat.zero_le _, by have := HF.out; split <;> omega⟩)
  rw [← hb]
  have HB := Aside0.mk hb
  clear hw1 hb
  go_loopg [1] F (fun kq v1 wr => ∃ (rw_ : ByteArray) (i : Nat) (a v o : Value) (p : Bs) (out : List T), v1 = .string rw_ ∧ Aside0 (LoopAt w wr b s F R kq rw_ i a v o p out))
  case atStart => exact ⟨raw, 0, _, _, _, [], [], rfl, HL⟩
  case round =>
    obtain ⟨rw_, i, a, v, o, p, out, rfl, H⟩ := hrel
    obtain ⟨RK, hRK⟩ : ∃ RK, RK = rawKind (B rw_) := ⟨_, rfl⟩
    have HKC := Aside0.mk (fun W => irawKind_calls rw_ W)
    rw [← hRK] at HKC
    have HRK := Aside0.mk hRK
    clear hRK
    have c1 := H.out.at_.blk.c1
    obtain ⟨g, rfl⟩ : ∃ g, gk = g + 1 := ⟨gk - 1, by have := H.out.hm; omega⟩
    have HB0 := Aside0.mk (show b ≠ 0 by rw [HB.out]; have := HREF.out.pos; omega)
    have HB1 := Aside0.mk (show b ≠ 1 by rw [HB.out]; have := HW1.out; omega)
    by_cases hk : 0 < RK
    · have hdk : decide (0 < RK) = true := decide_eq_true hk
      have HK := Aside0.mk hk
      by_cases hi : i < s.size
      · have hd : decide (i < s.size) = true := decide_eq_true hi
        clear hi
        go_wp2_with (first | (go_at_call 18; refine (HKC.out _).mono ?_; rintro e w5 ⟨rfl, hb5⟩; have H := Aside0.mk (show LoopAt w w5 b s F R (g + 1) rw_ i a v o p out from ⟨H.out.at_.under hb5, H.out.below.trans (hb5.mono H.out.below.size), H.out.eq, H.out.ho, H.out.hp, H.out.hk, H.out.hi, H.out.hm⟩); clear hb5) | (go_at_call 19; refine (raw_calls H.out.at_ rw_ (by have := HS.out; omega) (by have := rawKind_size (show 0 < rawKind (B rw_) by rw [← HRK.out]; exact HK.out); rw [B_length] at this; omega) H.out.hi (H.out.refs HREF.out) HB0.out (by have := H.out.hp; have := HF.out; have := HS.out; omega)).mono ?_; rintro e w6 ⟨a6, v6, rfl, h6, t6⟩; have H6 := Aside0.mk (H.out.raw HS.out (by rw [← HRK.out]; exact HK.out) h6 t6); clear h6 t6))
        go_roundg g
        case measure => omega
        case rel => exact ⟨⟨#[]⟩, _, _, _, _, _, _, rfl, H6⟩
      · have hd : decide (i < s.size) = false := decide_eq_false hi
        clear hi
        go_wp2_with (first | (go_at_call 18; refine (HKC.out _).mono ?_; rintro e w5 ⟨rfl, hb5⟩; have H := Aside0.mk (show LoopAt w w5 b s F R (g + 1) rw_ i a v o p out from ⟨H.out.at_.under hb5, H.out.below.trans (hb5.mono H.out.below.size), H.out.eq, H.out.ho, H.out.hp, H.out.hk, H.out.hi, H.out.hm⟩); clear hb5) | (go_at_call 19; refine (raw_calls H.out.at_ rw_ (by have := HS.out; omega) (by have := rawKind_size (show 0 < rawKind (B rw_) by rw [← HRK.out]; exact HK.out); rw [B_length] at this; omega) H.out.hi (H.out.refs HREF.out) HB0.out (by have := H.out.hp; have := HF.out; have := HS.out; omega)).mono ?_; rintro e w6 ⟨a6, v6, rfl, h6, t6⟩; have H6 := Aside0.mk (H.out.raw HS.out (by rw [← HRK.out]; exact HK.out) h6 t6); clear h6 t6))
        go_roundg g
        case measure => omega
        case rel => exact ⟨⟨#[]⟩, _, _, _, _, _, _, rfl, H6⟩
    · have hdk : decide (0 < RK) = false := decide_eq_false hk
      have HK := Aside0.mk hk
      by_cases hi : i < s.size
      · have hd : decide (i < s.size) = true := decide_eq_true hi
        have HI := Aside0.mk hi
        clear hi
        go_wp2_with (first | (go_at_call 18; refine (HKC.out _).mono ?_; rintro e w5 ⟨rfl, hb5⟩; have H := Aside0.mk (show LoopAt w w5 b s F R (g + 1) rw_ i a v o p out from ⟨H.out.at_.under hb5, H.out.below.trans (hb5.mono H.out.below.size), H.out.eq, H.out.ho, H.out.hp, H.out.hk, H.out.hi, H.out.hm⟩); clear hb5) | (go_at_call 20; refine (step_calls H.out.at_ (fun k hk => Nat.le_trans H.out.below.size hk) (by have := H.out.ho; have := HF.out; have := HS.out; omega) (by have := HS.out; omega) HI.out (H.out.refs HREF.out) (H.out.maxl HMX.out HW1.out) HB0.out HB1.out (by have := H.out.below.size; have := HW1.out; omega) (by have := H.out.hp; have := HF.out; have := HS.out; omega)).mono ?_; intro e w6 h6; obtain ⟨nm, i6, a6, v6, o6, p6, out6, rfl, h7⟩ := H.out.step HS.out (by rw [← HRK.out]; have := HK.out; omega) h6; have H6 := Aside0.mk h7; clear h6 h7))
        go_roundg g
        case measure => omega
        case rel => exact ⟨nm, i6, a6, v6, o6, p6, out6, rfl, H6⟩
      · have hd : decide (i < s.size) = false := decide_eq_false hi
        have HI := Aside0.mk hi
        clear hi
        go_wp2_with (first | (go_at_call 18; refine (HKC.out _).mono ?_; rintro e w5 ⟨rfl, hb5⟩; have H := Aside0.mk (show LoopAt w w5 b s F R (g + 1) rw_ i a v o p out from ⟨H.out.at_.under hb5, H.out.below.trans (hb5.mono H.out.below.size), H.out.eq, H.out.ho, H.out.hp, H.out.hk, H.out.hi, H.out.hm⟩); clear hb5) | (go_at_call 21; refine (flush_calls H.out.at_ (fun k hk => Nat.le_trans H.out.below.size hk) (by have := H.out.ho; have := HF.out; have := HS.out; omega)).mono ?_; rintro e w6 ⟨a6, v6, o6, rfl, h6, t6⟩; have c4 : w6.cell? ⟨b, 4, none⟩ = some o6 := blk_cell h6.blk 4; have HRW := Aside0.mk (show ITokAt w w6 o6 R from by rw [← H.out.eq, it_stop (by rw [← HRK.out]; have := HK.out; omega) (by rw [B_length]; have := HI.out; omega)]; exact ⟨Kd.S_mono h6.toks (fun _ _ => trivial), below_turned H.out.below t6 (fun k e => by rcases e with e | e | e; rw [e]; exact H.out.at_.bb; exact (byte_lt H.out.at_.text e.symm).1; exact (Kd.S_R H.out.at_.toks).1 k e.symm)⟩); obtain ⟨A6, c6, e6⟩ := Kd.S_slice h6.toks; subst e6; obtain ⟨n6, hn6⟩ : ∃ n6, n6 = (out ++ fl p).length := ⟨_, rfl⟩; rw [← hn6] at c4 HRW; clear h6 t6 hn6))
        go_ret
        exact ⟨_, rfl, HRW.out⟩
end Go.Proofs.YtnjnoabldjodcaaDoor.Tok
