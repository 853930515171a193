/- Part 21 of the proof: TokLawA, TokMk, TokMkW, TokHeld, TokFlush. -/
import Derived.Test.YtnjnoabldjodcaaDoorA8
import Derived.Test.YtnjnoabldjodcaaDoorA19
import Derived.Test.YtnjnoabldjodcaaDoorA20
import Derived.Test.YtnjnoabldjodcaaDoorA15
import Derived.Deep.RegionLaw
import Derived.Test.YtnjnoabldjodcaaDoorA18
set_option linter.unusedVariables false
set_option linter.unusedSimpArgs false
namespace Go.Proofs.YtnjnoabldjodcaaDoor.Tok
open Go.RowKit Go.Proofs.YtnjnoabldjodcaaDoorW.PrintWords Go.Proofs.YtnjnoabldjodcaaDoor.PFnExactTokens
theorem eqAttrS_f (xs : List A) (hn : xs.length < 2 ^ 62) : Ev (fun k => laws_eqAttrS.f k xs xs) true := by
  have key : ∀ (d i : Nat), i + d = xs.length → Ev (fun k => laws_eqAttrS.l0 k xs xs i) true := by
    intro d
    induction d with
    | zero => intro i h; exact Ev.done fun k => by simp only [laws_eqAttrS.l0]; rw [if_neg (by omega)]
    | succ d ih =>
      intro i h
      refine (ih (i + 1) (by omega)).step fun k => ?_
      simp only [laws_eqAttrS.l0, laws_eqAttr.f]
      rw [if_pos (by omega), if_pos (by omega), if_pos (by omega), if_pos trivial, if_pos trivial, w64 (by omega) (by omega)]
      rfl
  exact (key xs.length 0 (by omega)).same fun k => by simp only [laws_eqAttrS.f]; rw [if_pos trivial]; rfl
theorem eqTokenS_f (xs : List T) (ha : ∀ n ∈ xs, n.f2.length < 2 ^ 62) (hn : xs.length < 2 ^ 62) : Ev (fun k => laws_eqTokenS.f k xs xs) true := by
  have key : ∀ (d i : Nat), i + d = xs.length → Ev (fun k => laws_eqTokenS.l0 k xs xs i) true := by
    intro d
    induction d with
    | zero => intro i h; exact Ev.done fun k => by simp only [laws_eqTokenS.l0]; rw [if_neg (by omega)]
    | succ d ih =>
      intro i h
      have hi : i < xs.length := by omega
      have hr : rd_T36 xs (i : Int) = xs[i] := by simp [rd_T36, hi]
      have he := eqAttrS_f xs[i].f2 (ha _ (List.getElem_mem hi))
      refine Ev.step (g := fun k => (laws_eqAttrS.f k xs[i].f2 xs[i].f2).bind fun t => if t = true then laws_eqTokenS.l0 k xs xs ((i + 1 : Nat) : Int) else some false) (Ev.bind he (by simp only [if_true]; exact ih (i + 1) (by omega))) (fun k => ?_)
      simp only [laws_eqTokenS.l0, laws_eqToken.f, hr]
      rw [if_pos (by omega), if_pos (by omega), if_pos (by omega), if_pos trivial, if_pos trivial]
      cases laws_eqAttrS.f k xs[i].f2 xs[i].f2 with
      | none => simp only [Option.bind_none]
      | some t =>
        simp only [Option.bind_some]
        cases t with
        | false => simp
        | true =>
          simp only [if_true, Option.bind_some]
          rw [if_neg (by simp)]
          simp only [Option.bind_some, if_true]
          rw [w64 (by omega) (by omega)]
          rfl
  exact (key xs.length 0 (by omega)).same fun k => by simp only [laws_eqTokenS.f]; rw [if_pos trivial]; rfl
theorem markText_f (n : Int) (h0 : 0 ≤ n) (h1 : n < 2 ^ 60) : ∃ r, Ev (fun k => laws_markText.f k n) r := by
  have key : ∀ (m : Nat) (n : Int) (s : ByteArray), n.toNat ≤ m → 0 ≤ n → (s.size : Int) + n < 2 ^ 61 → ∃ r, Ev (fun k => laws_markText.l0 k n s) r := by
    intro m
    induction m with
    | zero =>
      intro n s h0 h1 h2
      exact ⟨_, Ev.done fun k => by simp only [laws_markText.l0]; rw [if_neg (by omega), if_pos (by omega)]⟩
    | succ m ih =>
      intro n s h0 h1 h2
      by_cases c : n > 0
      · have hq : Int.tdiv n 10 = n / 10 := Int.tdiv_eq_ediv_of_nonneg h1
        have hs : ∀ x : Int, (strOfNums [x]).size = 1 := fun x => by simp [strOfNums, ByteArray.size]
        obtain ⟨r, he⟩ := ih (n / 10) ((strOfNums [(wrap64 (48 + (Int.tmod n 10))) % 256]) ++ s) (by omega) (by omega) (by rw [ByteArray.size_append, hs]; omega)
        refine ⟨r, he.step fun k => ?_⟩
        simp only [laws_markText.l0]
        rw [if_pos c, hq, w64 (n := n / 10) (by omega) (by omega)]
        simp only [Option.bind_some]
        rw [if_pos (by rw [hs]; omega)]
      · exact ⟨_, Ev.done fun k => by simp only [laws_markText.l0]; rw [if_neg c, if_pos (by omega)]⟩
  by_cases c : n ≤ 0
  · exact ⟨_, Ev.same (Ev.const _) fun k => by simp only [laws_markText.f]; rw [if_pos c]⟩
  · obtain ⟨r, he⟩ := key n.toNat n ⟨#[]⟩ (Nat.le_refl _) h0 (by simp [ByteArray.size]; omega)
    exact ⟨r, he.same fun k => by simp only [laws_markText.f]; rw [if_neg c]⟩
def MarkFn (M : Int → ByteArray) : Prop := ∀ n, 0 ≤ n → n < 2 ^ 60 → Ev (fun k => laws_markText.f k n) (M n)
theorem markFn : ∃ M, MarkFn M := by
  have h : ∀ n : Int, ∃ r, 0 ≤ n → n < 2 ^ 60 → Ev (fun k => laws_markText.f k n) r := fun n => by
    by_cases c : 0 ≤ n ∧ n < 2 ^ 60
    · obtain ⟨r, hr⟩ := markText_f n c.1 c.2
      exact ⟨r, fun _ _ => hr⟩
    · exact ⟨⟨#[]⟩, fun h1 h2 => absurd ⟨h1, h2⟩ c⟩
  exact ⟨fun n => (h n).choose, fun n h0 h1 => (h n).choose_spec h0 h1⟩
def markA (M : Int → ByteArray) : Int → Nat → List A
  | _, 0 => []
  | n, m + 1 => ⟨M n, M (n + 1)⟩ :: markA M (n + 2) m
theorem markA_length (M : Int → ByteArray) : ∀ (m : Nat) (n : Int), (markA M n m).length = m
  | 0, _ => rfl
  | m + 1, n => by simp [markA, markA_length M m]
theorem markA_get (M : Int → ByteArray) : ∀ (m : Nat) (n : Int) (i : Nat), i < m → (markA M n m)[i]? = some ⟨M (n + 2 * i), M (n + 2 * i + 1)⟩
  | m + 1, n, 0, h => by simp [markA]
  | m + 1, n, i + 1, h => by
    rw [markA, List.getElem?_cons_succ, markA_get M m (n + 2) i (by omega)]
    rw [show n + 2 + 2 * (i : Int) = n + 2 * ((i + 1 : Nat) : Int) by omega]
theorem set_app (pr rest : List A) (x y : A) : (pr ++ x :: rest).set pr.length y = pr ++ y :: rest := by
  rw [List.set_append_right _ _ (Nat.le_refl _), Nat.sub_self]
  rfl
theorem rd_app (pr rest : List A) (x : A) : rd_T62 (pr ++ x :: rest) (pr.length : Int) = x := by
  simp [rd_T62]
theorem markAttrS_f {M : Int → ByteArray} (hM : MarkFn M) (xs : List A) (a : Int) (h0 : 0 ≤ a) (hn : a + 2 * xs.length < 2 ^ 59) : Ev (fun k => laws_markAttrS.f k xs a) (a + 2 * xs.length, markA M a xs.length) := by
  have key : ∀ (rest pr : List A) (b : Int), 0 ≤ b → b + 2 * (rest.length : Int) < 2 ^ 59 → ((pr.length + rest.length : Nat) : Int) < 2 ^ 59 → Ev (fun k => laws_markAttrS.l0 k (pr ++ rest) b (pr.length : Int)) (b + 2 * rest.length, pr ++ markA M b rest.length) := by
    intro rest
    induction rest with
    | nil => intro pr b _ _ _; exact Ev.done fun k => by simp only [laws_markAttrS.l0]; rw [if_neg (by simp)]; simp [markA]
    | cons x rest ih =>
      intro pr b hb hb2 hl
      rw [List.length_cons] at hb2 hl
      have e1 := hM b hb (by omega)
      have e2 := hM (b + 1) (by omega) (by omega)
      have he := ih (pr ++ [⟨M b, M (b + 1)⟩]) (b + 2) (by omega) (by omega) (by rw [List.length_append, List.length_singleton]; omega)
      rw [List.append_assoc, List.append_assoc, List.length_append, List.length_singleton] at he
      simp only [List.singleton_append] at he
      have hr : (b + 2 * ((x :: rest).length : Int), pr ++ markA M b (x :: rest).length) = (b + 2 + 2 * (rest.length : Int), pr ++ ⟨M b, M (b + 1)⟩ :: markA M (b + 2) rest.length) := by
        rw [List.length_cons, markA]
        simp only [Prod.mk.injEq, and_true]
        omega
      rw [hr]
      refine Ev.step (g := fun k => (laws_markText.f k b).bind fun t1 => (laws_markText.f k (b + 1)).bind fun t2 => laws_markAttrS.l0 k (pr ++ ⟨t1, t2⟩ :: rest) (b + 2) ((pr.length + 1 : Nat) : Int)) (Ev.bind e1 (Ev.bind e2 he)) (fun k => ?_)
      simp only [laws_markAttrS.l0, Option.bind_some, Int.toNat_natCast]
      have c0 : (0 : Int) ≤ (pr.length : Int) := by omega
      rw [if_pos (by rw [List.length_append, List.length_cons]; omega), w64 (n := b + 1) (by omega) (by omega), w64 (n := b + 1 + 1) (by omega) (by omega), w64 (n := (pr.length : Int) + 1) (by omega) (by omega)]
      simp only [c0, if_true, set_app, rd_app]
      rw [show b + 1 + 1 = b + 2 by omega]
      rfl
  have := key xs [] a h0 hn (by simp; omega)
  exact this
theorem heldAttrS_f {M : Int → ByteArray} (hM : MarkFn M) (m : Nat) (a : Int) (h0 : 0 ≤ a) (hn : a + 2 * m < 2 ^ 59) : Ev (fun k => laws_heldAttrS.f k (markA M a m) a) (a + 2 * m) := by
  have key : ∀ (d i : Nat), i + d = m → Ev (fun k => laws_heldAttrS.l0 k (markA M a m) (a + 2 * i) i) (a + 2 * m) := by
    intro d
    induction d with
    | zero =>
      intro i h
      have : i = m := by omega
      subst this
      exact Ev.done fun k => by simp only [laws_heldAttrS.l0]; rw [if_neg (by rw [markA_length]; omega)]
    | succ d ih =>
      intro i h
      have hg := markA_get M m a i (by omega)
      have hr : rd_T62 (markA M a m) (i : Int) = ⟨M (a + 2 * i), M (a + 2 * i + 1)⟩ := by
        simp [rd_T62, hg]
      have e1 := hM (a + 2 * i) (by omega) (by omega)
      have e2 := hM (a + 2 * i + 1) (by omega) (by omega)
      have he := ih (i + 1) (by omega)
      refine Ev.step (g := fun k => (laws_markText.f k (a + 2 * i)).bind fun t1 => if (M (a + 2 * i)).toList = t1.toList then (laws_markText.f k (a + 2 * i + 1)).bind fun t2 => if (M (a + 2 * i + 1)).toList = t2.toList then laws_heldAttrS.l0 k (markA M a m) (a + 2 * ((i + 1 : Nat) : Int)) ((i + 1 : Nat) : Int) else some (-1) else some (-1))
        (Ev.bind e1 (by simp only [if_true]; exact Ev.bind e2 (by simp only [if_true]; exact he))) (fun k => ?_)
      simp only [laws_heldAttrS.l0, hr]
      rw [if_pos (by rw [markA_length]; omega), if_pos (by omega), w64 (n := a + 2 * (i : Int) + 1) (by omega) (by omega), w64 (n := a + 2 * (i : Int) + 1 + 1) (by omega) (by omega), w64 (n := (i : Int) + 1) (by omega) (by omega)]
      rw [show a + 2 * (i : Int) + 1 + 1 = a + 2 * ((i + 1 : Nat) : Int) by omega]
      rfl
  have := key m 0 (by omega)
  rw [show a + 2 * ((0 : Nat) : Int) = a by omega] at this
  exact this
end Go.Proofs.YtnjnoabldjodcaaDoor.Tok
set_option linter.unusedVariables false
set_option linter.unusedSimpArgs false
namespace Go.Proofs.YtnjnoabldjodcaaDoor.Tok
open Go.RowKit Go.Proofs.YtnjnoabldjodcaaDoorW.PrintWords Go.Proofs.YtnjnoabldjodcaaDoorW.PrintLast Go.Proofs.YtnjnoabldjodcaaDoorW.PrintMore Go.Proofs.YtnjnoabldjodcaaDoor.PFnExactTokens
def mark (M : Int → ByteArray) (m : Int) (l : Nat) : List (Nat × Value) :=
  [(0, .int .i64 m), (1, .string (M (m + 1))), (3, .string (M (m + 2 + 2 * l))), (4, .bool ((m + 2 + 2 * l + 1) % 3 == 0))]
def msf (a : Int) (ls : Nat → Nat) : Nat → Int
  | 0 => a
  | i + 1 => msf a ls i + 4 + 2 * (ls i : Int)
theorem msf_le (a : Int) (ls : Nat → Nat) (h : ∀ i, ls i ≤ 200000) : ∀ i, a ≤ msf a ls i ∧ msf a ls i ≤ a + 400004 * i
  | 0 => by simp [msf]
  | i + 1 => by
    have := msf_le a ls h i
    have := h i
    unfold msf
    omega
structure TM (M : Int → ByteArray) (w : World) (base g n : Nat) (vs : Nat → Value) (ls : Nat → Nat) (ms : Nat → Int) (ys : Nat → List A) (cur : Nat) (fx : List (Nat × Value)) : Prop where
  blk : ∃ cs, w.heap[g]? = some (.cells cs 36 (0, 0)) ∧ (∀ j, j < n * 5 → ∃ u, cs[j]? = some u) ∧ (∀ i, i < n → cs[i * 5 + 2]? = some (vs i)) ∧ (∀ i, i < cur → ∀ q ∈ mark M (ms i) (ls i), cs[i * 5 + q.1]? = some q.2) ∧ ∀ q ∈ fx, cs[cur * 5 + q.1]? = some q.2
  row : ∀ i, i < n → (ys i).length = ls i ∧ Kd.R k62 62 w base (fun k => some k = (vs i).ownBlock) (vs i) (ys i) ∧ (i < cur → ys i = markA M (ms i + 2) (ls i))
  apart : ∀ i i', i < n → i' < n → i ≠ i' → ∀ k, (vs i).ownBlock = some k → (vs i').ownBlock ≠ some k
section
variable {M : Int → ByteArray} {w w1 : World} {base g n : Nat} {vs : Nat → Value} {ls : Nat → Nat} {ms : Nat → Int} {ys : Nat → List A} {cur : Nat} {fx : List (Nat × Value)}
theorem TM.lt (h : TM M w base g n vs ls ms ys cur fx) : g < w.heap.size := by
  obtain ⟨cs, h1, _⟩ := h.blk
  exact blk_lt h1
theorem TM.cell (h : TM M w base g n vs ls ms ys cur fx) {i : Nat} (hi : i < n) (j : Nat) (hj : j < 5) : (∃ u, w.cell? ⟨g, i * 5 + j, none⟩ = some u) ∧ w.frozen? ⟨g, i * 5 + j, none⟩ = false := by
  obtain ⟨cs, h1, h2, _⟩ := h.blk
  obtain ⟨u, hu⟩ := h2 (i * 5 + j) (by omega)
  exact ⟨⟨u, by rw [blk_cell h1]; exact hu⟩, blk_frozen h1 _⟩
theorem TM.attrs (h : TM M w base g n vs ls ms ys cur fx) {i : Nat} (hi : i < n) : w.cell? ⟨g, i * 5 + 2, none⟩ = some (vs i) := by
  obtain ⟨cs, h1, _, h3, _⟩ := h.blk
  rw [blk_cell h1]
  exact h3 i hi
theorem TM.done (h : TM M w base g n vs ls ms ys cur fx) {i : Nat} (hi : i < cur) {q : Nat × Value} (hq : q ∈ mark M (ms i) (ls i)) : w.cell? ⟨g, i * 5 + q.1, none⟩ = some q.2 := by
  obtain ⟨cs, h1, _, _, h4, _⟩ := h.blk
  rw [blk_cell h1]
  exact h4 i hi q hq
theorem TM.ne (h : TM M w base g n vs ls ms ys cur fx) {i : Nat} (hi : i < n) : (vs i).ownBlock ≠ some g := by
  intro e
  obtain ⟨_, hr, _⟩ := h.row i hi
  obtain ⟨inner, ho⟩ := Kd.R_own hr
  obtain ⟨cells, hc⟩ := own_typed ho g e
  obtain ⟨cs, h1, _⟩ := h.blk
  rw [h1] at hc
  injection hc with hc
  injection hc with _ hc
  exact absurd hc (by decide)
theorem TM.under (h : TM M w base g n vs ls ms ys cur fx) (hb : Below w.heap.size w w1) : TM M w1 base g n vs ls ms ys cur fx := by
  obtain ⟨cs, h1, h2⟩ := h.blk
  exact ⟨⟨cs, (hb.block g (blk_lt h1)).trans h1, h2⟩, fun i hi => by obtain ⟨e, hr, h3⟩ := h.row i hi; exact ⟨e, Kd.R_below hr hb, h3⟩, h.apart⟩
theorem TM.store (h : TM M w base g n vs ls ms ys cur fx) (hi : cur < n) (j : Nat) (hj : j < 5) (hj2 : j ≠ 2) (hfx : ∀ q ∈ fx, q.1 ≠ j ∧ q.1 < 5) (u : Value) : TM M (w.setCell ⟨g, cur * 5 + j, none⟩ u) base g n vs ls ms ys cur ((j, u) :: fx) := by
  obtain ⟨cs, h1, h2, h3, h4, h5⟩ := h.blk
  obtain ⟨u0, hu0⟩ := h2 (cur * 5 + j) (by omega)
  have hlt : cur * 5 + j < cs.size := (Array.getElem?_eq_some_iff.1 hu0).1
  refine ⟨⟨cs.setIfInBounds (cur * 5 + j) u, blk_put h1 _ _ rfl, fun j' hj' => ?_, fun i hi' => ?_, fun i hi' q hq => ?_, fun q hq => ?_⟩, fun i hi' => ?_, h.apart⟩
  · rw [Array.getElem?_setIfInBounds]
    by_cases c : cur * 5 + j = j'
    · rw [if_pos c]
      exact ⟨u, if_pos hlt⟩
    · rw [if_neg c]
      exact h2 j' hj'
  · rw [Array.getElem?_setIfInBounds_ne (by omega)]
    exact h3 i hi'
  · have hq5 : q.1 < 5 := by
      unfold mark at hq
      simp at hq
      rcases hq with rfl | rfl | rfl | rfl <;> simp
    rw [Array.getElem?_setIfInBounds_ne (by omega)]
    exact h4 i hi' q hq
  · rcases List.mem_cons.1 hq with rfl | hq
    · rw [Array.getElem?_setIfInBounds_self_of_lt hlt]
    · have := (hfx q hq).1
      rw [Array.getElem?_setIfInBounds_ne (by omega)]
      exact h5 q hq
  · obtain ⟨e, hr, h6⟩ := h.row i hi'
    exact ⟨e, Kd.R_move hr (fun k hk => Below.heap_setCell w _ u k (fun e => h.ne hi' (by rw [← hk]; show some k = some g; rw [e]))), h6⟩
theorem TM.marked (h : TM M w base g n vs ls ms ys cur fx) (hi : cur < n) (hk : Kept w w1 (fun k => some k = (vs cur).ownBlock)) {zs : List A} (hz : zs.length = ls cur) (hr : Kd.R k62 62 w1 base (fun k => some k = (vs cur).ownBlock) (vs cur) zs) : TM M w1 base g n vs ls ms (fun i => if i = cur then zs else ys i) cur fx := by
  obtain ⟨cs, h1, h2⟩ := h.blk
  refine ⟨⟨cs, (hk.2 g (blk_lt h1) (fun e => h.ne hi e.symm)).trans h1, h2⟩, fun i hi' => ?_, h.apart⟩
  by_cases c : i = cur
  · subst c
    simp only [if_true]
    exact ⟨hz, hr, fun h => absurd h (Nat.lt_irrefl _)⟩
  · simp only [c, if_false]
    obtain ⟨e, hr2, h3⟩ := h.row i hi'
    exact ⟨e, Kd.R_step hr2 (fun k hk1 hk2 => hk.2 k hk2 (fun e2 => h.apart cur i hi hi' (fun e => c e.symm) k e2.symm hk1.symm)), h3⟩
theorem TM.close (h : TM M w base g n vs ls ms ys cur fx) (hfx : ∀ q ∈ mark M (ms cur) (ls cur), q ∈ fx) (hy : cur < n → ys cur = markA M (ms cur + 2) (ls cur)) : TM M w base g n vs ls ms ys (cur + 1) [] := by
  obtain ⟨cs, h1, h2, h3, h4, h5⟩ := h.blk
  refine ⟨⟨cs, h1, h2, h3, fun i hi q hq => ?_, fun q hq => by cases hq⟩, fun i hi => ?_, h.apart⟩
  · by_cases c : i = cur
    · subst c; exact h5 q (hfx q hq)
    · exact h4 i (by omega) q hq
  · obtain ⟨e, hr, h6⟩ := h.row i hi
    refine ⟨e, hr, fun hlt => ?_⟩
    by_cases c : i = cur
    · subst c; exact hy hi
    · exact h6 (by omega)
end
theorem tm_of {M : Int → ByteArray} {w : World} {base : Nat} {ok : Nat → Prop} {v : Value} {xs : List T} (ms : Nat → Int) (h : Kd.S k36 36 w base ok v xs) (hp : 0 < xs.length) :
    ∃ g c vs, v = .slice (some ⟨g, 0, none⟩) xs.length c ∧ base ≤ g ∧ ok g ∧ (∀ i k, i < xs.length → (vs i).ownBlock = some k → ok k ∧ base ≤ k) ∧ TM M w base g xs.length vs (fun i => (xs.getD i z36).f2.length) ms (fun i => (xs.getD i z36).f2) 0 [] := by
  obtain ⟨g, c, rfl, hg, hlt, cells, hc⟩ := Kd.S_form h hp
  obtain ⟨f, hR⟩ := h
  obtain ⟨hok0, inner, ho, hr⟩ := hR
  have hgo : (Value.slice (some ⟨g, 0, none⟩) xs.length c).ownBlock = some g := rfl
  have hlen : inner.length = xs.length * 5 := by have := hr.1; rw [List.length_zipIdx] at this; exact this
  have hcell : ∀ j u, inner[j]? = some u → cells[j]? = some u := fun j u hu => by
    have := ho.cells (g := g) hgo j u hu
    rw [add_plain] at this
    rw [← blk_cell hc j]
    exact this
  have hel : ∀ i, i < xs.length → ∃ v3, inner[i * 5 + 2]? = some v3 ∧ Kd.R k62 62 w base (fun k => (ok k ∧ some k ≠ (Value.slice (some ⟨g, 0, none⟩) xs.length c).ownBlock) ∧ f k = i) v3 (xs.getD i z36).f2 := fun i hi => by
    have hM := hr.2 i (xs[i], i) (by simp [hi])
    obtain ⟨v3, e, hR3⟩ := k36_openM (show k36.M w base _ xs[i] _ from hM)
    refine ⟨v3, ?_, ?_⟩
    · have h3 := congrArg (fun l => l[2]?) e
      simp only [List.getElem?_take, List.getElem?_drop] at h3
      have h4 : 2 < (Kd.tag f k36).sz ∧ inner[i * (Kd.tag f k36).sz + 2]? = some v3 := by simpa using h3
      exact h4.2
    · rw [List.getD_eq_getElem?_getD, List.getElem?_eq_getElem hi]
      exact hR3
  have hv : ∀ i, i < xs.length → inner[i * 5 + 2]? = some (inner[i * 5 + 2]?.getD undef) ∧ Kd.R k62 62 w base (fun k => (ok k ∧ some k ≠ (Value.slice (some ⟨g, 0, none⟩) xs.length c).ownBlock) ∧ f k = i) (inner[i * 5 + 2]?.getD undef) (xs.getD i z36).f2 := fun i hi => by
    obtain ⟨v3, e, hR3⟩ := hel i hi
    rw [e]
    exact ⟨rfl, hR3⟩
  refine ⟨g, c, fun i => inner[i * 5 + 2]?.getD undef, rfl, hg, hok0 g hgo, fun i k hi hk => ⟨((hv i hi).2.1 k hk).1.1, Kd.R_base (hv i hi).2 k hk⟩, ⟨cells, hc, fun j hj => ?_, fun i hi => hcell _ _ (hv i hi).1, fun i hi => absurd hi (Nat.not_lt_zero _), fun q hq => by cases hq⟩, fun i hi => ⟨rfl, Kd.R_tight rfl (hv i hi).2, fun h => absurd h (Nat.not_lt_zero _)⟩, fun i i' hi hi' hne k hk hk' => hne ?_⟩
  · obtain ⟨u, hu⟩ : ∃ u, inner[j]? = some u := ⟨_, List.getElem?_eq_getElem (by omega)⟩
    exact ⟨u, hcell j u hu⟩
  · exact ((hv i hi).2.1 k hk).2.symm.trans ((hv i' hi').2.1 k hk').2
end Go.Proofs.YtnjnoabldjodcaaDoor.Tok
set_option linter.unusedVariables false
set_option linter.unusedSimpArgs false
namespace Go.Proofs.YtnjnoabldjodcaaDoor.Tok
open Go.RowKit Go.Proofs.YtnjnoabldjodcaaDoorW.PrintWords Go.Proofs.YtnjnoabldjodcaaDoorW.PrintLast Go.Proofs.YtnjnoabldjodcaaDoorW.PrintMore Go.Proofs.YtnjnoabldjodcaaDoor.PFnExactTokens
def Marked (M : Int → ByteArray) (w : World) (base : Nat) (v : Value) (n : Nat) (r : Int) : Prop :=
  (n = 0 ∧ (∃ A c, v = .slice A 0 c) ∧ r = 1) ∨ ∃ g c vs ls ys, v = .slice (some ⟨g, 0, none⟩) n c ∧ 0 < n ∧ n ≤ 2097152 ∧ (∀ i, ls i ≤ 200000) ∧ r = msf 1 ls n ∧ TM M w base g n vs ls (msf 1 ls) ys n []
theorem Marked.under {M : Int → ByteArray} {w w1 : World} {base : Nat} {v : Value} {n : Nat} {r : Int} (h : Marked M w base v n r) (hb : Below w.heap.size w w1) : Marked M w1 base v n r := by
  rcases h with h | ⟨g, c, vs, ls, ys, h1, h2, h3, h4, h5, h6⟩
  · exact .inl h
  · exact .inr ⟨g, c, vs, ls, ys, h1, h2, h3, h4, h5, h6.under hb⟩
theorem Kept.below2 {w W W2 : World} {S : Nat → Prop} (h : Kept w W S) (hb : Below W.heap.size W W2) : Kept w W2 S := h.below hb
theorem bel_step {w0 w w1 : World} (h : Below w0.heap.size w0 w) (hb : Below w.heap.size w w1) : Below w0.heap.size w0 w1 := h.trans (hb.mono h.size)
theorem bel_set {w0 w : World} {g o : Nat} (h : Below w0.heap.size w0 w) (hg : w0.heap.size ≤ g) (u : Value) : Below w0.heap.size w0 (w.setCell ⟨g, o, none⟩ u) := h.trans ((Turned.put w g o u).below h.size (fun k _ e => by rw [e]; exact hg))
set_option maxHeartbeats 8000000 in
set_option maxRecDepth 100000 in
theorem markTokenS_calls {M : Int → ByteArray} (hM : MarkFn M) (v : Value) (xs : List T) (w0 w : World) (ok : Nat → Prop) (hB : Below w0.heap.size w0 w) (hS : Kd.S k36 36 w w0.heap.size ok v xs) (hn : xs.length ≤ 2097152) (hl : ∀ x ∈ xs, x.f2.length ≤ 200000) :
    Calls Tryd.prog 7 #[v, .int .i64 1] w fun e w' => ∃ r, e = .returned (.int .i64 r) ∧ Marked M w' w0.heap.size v xs.length r ∧ Below w0.heap.size w0 w' ∧ Kept w w' ok := by
  have hu := Tryd.underlying36
  cases xs with
  | nil =>
    obtain ⟨A_, c, rfl⟩ := Kd.S_slice hS
    have HB := Aside0.mk hB
    clear hS hB
    go_enter Tryd.func7, Tryd.ntmps7
    go_wp2
    go_loopg [1, 5] 1 (fun kq v1 v5 wr => v1 = .int .i64 1 ∧ v5 = .int .i64 0 ∧ wr = w)
    case atStart => exact ⟨rfl, rfl, rfl⟩
    case round =>
      obtain ⟨rfl, rfl, hw⟩ := hrel
      subst hw
      go_wp2
      go_ret
      exact ⟨1, rfl, .inl ⟨rfl, ⟨_, _, rfl⟩, rfl⟩, HB.out, Kept.refl _ _⟩
  | cons x0 xr =>
    obtain ⟨ls, hls⟩ : ∃ ls : Nat → Nat, ls = fun i => ((x0 :: xr).getD i z36).f2.length := ⟨_, rfl⟩
    obtain ⟨g, c, vs, rfl, hg, hokg, hokv, hT⟩ := tm_of (M := M) (msf 1 ls) hS (by simp)
    have hlb : ∀ i, ls i ≤ 200000 := fun i => by
      rw [hls]
      simp only
      rw [List.getD_eq_getElem?_getD]
      cases h : (x0 :: xr)[i]? with
      | none => simp [z36]
      | some x => exact hl x (List.mem_of_getElem? h)
    have hx0 : 0 < (x0 :: xr).length := by simp
    rw [← hls] at hT
    generalize hxs : (x0 :: xr).length = n at *
    obtain ⟨ys0, hys0⟩ : ∃ ys0 : Nat → List A, ys0 = fun i => ((x0 :: xr).getD i z36).f2 := ⟨_, rfl⟩
    rw [← hys0] at hT
    have HX := Aside0.mk (And.intro hB (And.intro hT (And.intro hg (And.intro hokg (And.intro hokv (And.intro hlb hx0))))))
    have HMF := Aside0.mk hM
    have HN := Aside0.mk hn
    obtain ⟨big, hbig⟩ : ∃ big : Int, big = 1099511627776 := ⟨_, rfl⟩
    have hnb : (n : Int) ≤ big := by omega
    have hbig2 : big ≤ 1152921504606846976 := by omega
    have HBIG := Aside0.mk hbig
    clear hxs hS hB hg hokg hokv hT hlb hx0 hls hys0 hM hn hl hbig
    go_enter Tryd.func7, Tryd.ntmps7
    go_wp2
    go_loopg [1, 5] (n + 1) (fun kq v1 v5 wr => ∃ (i : Nat) (m : Int) (ys : Nat → List A), v1 = .int .i64 m ∧ v5 = .int .i64 i ∧ Aside0 (i + kq = n + 1 ∧ i ≤ n ∧ m = msf 1 ls i) ∧ Aside0 (TM M wr w0.heap.size g n vs ls (msf 1 ls) ys i []) ∧ Aside0 (Below w0.heap.size w0 wr ∧ Kept w wr ok))
    case atStart => exact ⟨0, 1, ys0, rfl, rfl, ⟨by omega, by omega, rfl⟩, ⟨HX.out.2.1⟩, ⟨HX.out.1, Kept.refl _ _⟩⟩
    case round =>
      obtain ⟨i, m, ys, rfl, rfl, HI, HM, HK⟩ := hrel
      by_cases hlt : i < n
      · have hd : decide ((i : Int) < (n : Int)) = true := decide_eq_true (by omega)
        have hd2 : decide (i < n) = true := decide_eq_true hlt
        have hi0 : (i : Int) < n := by omega
        have hmle := msf_le 1 ls HX.out.2.2.2.2.2.1 i
        rw [← HI.out.2.2] at hmle
        have hlsi := HX.out.2.2.2.2.2.1 i
        have hmb : 1 ≤ m ∧ m + 2 * (ls i : Int) + 100 ≤ big := by have := HBIG.out; have := HN.out; omega
        obtain ⟨hm1, hmm⟩ := hmb
        obtain ⟨l, hll⟩ : ∃ l, l = ls i := ⟨_, rfl⟩
        rw [← hll] at hmm hlsi
        have HLL := Aside0.mk hll
        have hm0 : 0 ≤ m := by omega
        have hmx : m ≤ big := by omega
        have hmx2 : m + 100 ≤ big := by omega
        obtain ⟨⟨u0, hx0⟩, hf0⟩ := HM.out.cell hlt 0 (by omega)
        have HI2 := Aside0.mk hlt
        have HLS := Aside0.mk hlsi
        clear hlt hmle hll hlsi
        rw [Nat.add_zero] at hx0 hf0
        go_upto_region 5 with (fail)
        generalize hw1 : World.setCell wr _ _ = w1
        have HM1 := Aside0.mk (show TM M w1 w0.heap.size g n vs ls (msf 1 ls) ys i [(0, .int .i64 m)] by rw [← hw1]; exact HM.out.store HI2.out 0 (by omega) (by omega) (fun q hq => by cases hq) _)
        have HK1 := Aside0.mk (show Below w0.heap.size w0 w1 ∧ Kept w w1 ok by rw [← hw1]; exact ⟨bel_set HK.out.1 HX.out.2.2.1 _, HK.out.2.setCell (.inl HX.out.2.2.2.1) _⟩)
        clear hw1 hx0 hf0 HM HK
        obtain ⟨k1, hk1⟩ := (HMF.out (m + 1) (by omega) (by omega)).some
        have HT1 := Aside0.mk hk1
        clear hk1
        go_upto_region 7 with ((go_at_call 23; refine (laws_markText.calls k1 (m + 1) (M (m + 1)) _ HT1.out).mono ?_; rintro e w2 ⟨rfl, hb2⟩; have HM2 := Aside0.mk (HM1.out.under hb2); have HK2 := Aside0.mk (And.intro (bel_step HK1.out.1 hb2) (HK1.out.2.below hb2)); obtain ⟨⟨u2, hx2⟩, hf2⟩ := HM2.out.cell HI2.out 1 (by omega); clear hb2))
        generalize hw3 : World.setCell w2 _ _ = w3
        have HM3 := Aside0.mk (show TM M w3 w0.heap.size g n vs ls (msf 1 ls) ys i [(1, .string (M (m + 1))), (0, .int .i64 m)] by rw [← hw3]; exact HM2.out.store HI2.out 1 (by omega) (by omega) (fun q hq => by simp at hq; subst hq; simp) _)
        have HK3 := Aside0.mk (show Below w0.heap.size w0 w3 ∧ Kept w w3 ok by rw [← hw3]; exact ⟨bel_set HK2.out.1 HX.out.2.2.1 _, HK2.out.2.setCell (.inl HX.out.2.2.2.1) _⟩)
        have hx4 := HM3.out.attrs HI2.out
        obtain ⟨hyl, hyr, _⟩ := HM3.out.row i HI2.out
        obtain ⟨kz, hkz⟩ := (markAttrS_f HMF.out (ys i) (m + 1 + 1) (by omega) (by rw [hyl, ← HLL.out]; have := HBIG.out; omega)).some
        rw [hyl, ← HLL.out] at hkz
        have HZ := Aside0.mk (And.intro hkz hyr)
        obtain ⟨Av, cv, ev⟩ := Kd.R_slice hyr
        have HEV := Aside0.mk ev
        rw [ev] at hx4
        clear hw3 hx2 hf2 HM2 HK2 HM1 HK1 hyr hkz hyl ev
        go_upto_region 9 with ((go_at_call 24; rw [← HEV.out]; refine (laws_markAttrS.calls kz _ (vs i) (ys i) (m + 1 + 1) _ (markA M (m + 1 + 1) l) w0 w3 HK3.out.1 HZ.out.2 HZ.out.1).mono ?_; rintro e w5 ⟨rfl, hr5, hb5, hk5⟩; have HM5 := Aside0.mk (HM3.out.marked HI2.out hk5 (by rw [markA_length]; exact HLL.out) (Kd.R_tight rfl hr5)); have HK5 := Aside0.mk (And.intro hb5 (HK3.out.2.then_ hk5 (fun k hk => .inl (HX.out.2.2.2.2.1 i k HI2.out hk.symm).1))); clear hr5 hb5 hk5))
        obtain ⟨m5, hm5⟩ : ∃ m5, m5 = m + 1 + 1 + 2 * (l : Int) := ⟨_, rfl⟩
        rw [← hm5]
        have HM5E := Aside0.mk hm5
        have h50 : 0 ≤ m5 := by omega
        have h51 : m5 + 10 ≤ big := by omega
        obtain ⟨k6, hk6⟩ := (HMF.out m5 (by omega) (by omega)).some
        have HT6 := Aside0.mk hk6
        clear hk6 hm5 hx4
        go_upto_region 10 with ((go_at_call 23; refine (laws_markText.calls k6 m5 (M m5) _ HT6.out).mono ?_; rintro e w6 ⟨rfl, hb6⟩; have HM6 := Aside0.mk (HM5.out.under hb6); have HK6 := Aside0.mk (And.intro (bel_step HK5.out.1 hb6) (HK5.out.2.below hb6)); obtain ⟨⟨u6, hx6⟩, hf6⟩ := HM6.out.cell HI2.out 3 (by omega); clear hb6))
        generalize hw7 : World.setCell w6 _ _ = w7
        have HM7 := Aside0.mk (HM6.out.store HI2.out 3 (by omega) (by omega) (fun q hq => by simp at hq; rcases hq with rfl | rfl <;> simp) (.string (M m5)))
        rw [hw7] at HM7
        have HK7 := Aside0.mk (show Below w0.heap.size w0 w7 ∧ Kept w w7 ok by rw [← hw7]; exact ⟨bel_set HK6.out.1 HX.out.2.2.1 _, HK6.out.2.setCell (.inl HX.out.2.2.2.1) _⟩)
        obtain ⟨⟨u7, hx7⟩, hf7⟩ := HM7.out.cell HI2.out 4 (by omega)
        clear hw7 hx6 hf6 HM6 HK6 HM5 HK5 HM3 HK3
        go_upto_region 12 with (fail)
        generalize hw8 : World.setCell w7 _ _ = w8
        have HM8 := Aside0.mk (HM7.out.store HI2.out 4 (by omega) (by omega) (fun q hq => by simp at hq; rcases hq with rfl | rfl | rfl <;> simp) (.bool ((m5 + 1) % 3 == 0)))
        rw [hw8] at HM8
        have HK8 := Aside0.mk (show Below w0.heap.size w0 w8 ∧ Kept w w8 ok by rw [← hw8]; exact ⟨bel_set HK7.out.1 HX.out.2.2.1 _, HK7.out.2.setCell (.inl HX.out.2.2.2.1) _⟩)
        have HM9 := Aside0.mk (HM8.out.close (fun q hq => by
          unfold mark at hq
          rw [← HI.out.2.2, ← HLL.out, show m + 2 + 2 * (l : Int) = m5 by have := HM5E.out; omega] at hq
          simp at hq ⊢
          rcases hq with rfl | rfl | rfl | rfl <;> simp) (fun _ => by
          simp only [if_true]
          rw [← HI.out.2.2, ← HLL.out, show m + 1 + 1 = m + 2 by omega]))
        have HI3 := Aside0.mk (show i + 1 + (gk - 1) = n + 1 ∧ 0 < gk by have := HI.out; have := HI2.out; omega)
        have HMN := Aside0.mk (show m5 + 1 + 1 = msf 1 ls (i + 1) by unfold msf; rw [← HI.out.2.2, ← HLL.out]; have := HM5E.out; omega)
        clear hw8 hx7 hf7 HM7 HK7 HM8
        go_wp2
        have hii : (i : Int) + 1 = ((i + 1 : Nat) : Int) := by omega
        go_roundg (gk - 1)
        case measure => have := HI3.out; omega
        case rel => exact ⟨i + 1, _, _, rfl, by rw [hii], ⟨HI3.out.1, HI2.out, HMN.out⟩, HM9, HK8⟩
      · have hd : decide ((i : Int) < (n : Int)) = false := decide_eq_false (by omega)
        have hd2 : decide (i < n) = false := decide_eq_false hlt
        have HIN := Aside0.mk (show i = n by have := HI.out; omega)
        clear hlt
        go_wp2
        go_ret
        exact ⟨m, rfl, .inr ⟨g, c, vs, ls, ys, rfl, HX.out.2.2.2.2.2.2, HN.out, HX.out.2.2.2.2.2.1, by rw [HI.out.2.2, HIN.out], by have := HM.out; rw [HIN.out] at this; exact this⟩, HK.out.1, HK.out.2⟩
end Go.Proofs.YtnjnoabldjodcaaDoor.Tok
set_option linter.unusedVariables false
set_option linter.unusedSimpArgs false
namespace Go.Proofs.YtnjnoabldjodcaaDoor.Tok
open Go.RowKit Go.Proofs.YtnjnoabldjodcaaDoorW.PrintWords Go.Proofs.YtnjnoabldjodcaaDoorW.PrintLast Go.Proofs.YtnjnoabldjodcaaDoorW.PrintMore Go.Proofs.YtnjnoabldjodcaaDoor.PFnExactTokens
set_option maxHeartbeats 8000000 in
set_option maxRecDepth 100000 in
theorem heldTokenS_calls {M : Int → ByteArray} (hM : MarkFn M) (v : Value) (n : Nat) (r : Int) (base : Nat) (w : World) (h : Marked M w base v n r) :
    Calls Tryd.prog 8 #[v, .int .i64 1] w fun e w' => e = .returned (.int .i64 r) ∧ Below w.heap.size w w' := by
  have hu := Tryd.underlying36
  rcases h with ⟨rfl, ⟨A_, c, rfl⟩, rfl⟩ | ⟨g, c, vs, ls, ys, rfl, hn0, hn, hlb, hr, hT⟩
  · go_enter Tryd.func8, Tryd.ntmps8
    go_wp2
    go_loopg [1, 5] 1 (fun kq v1 v5 wr => v1 = .int .i64 1 ∧ v5 = .int .i64 0 ∧ w = wr)
    case atStart => exact ⟨rfl, rfl, rfl⟩
    case round =>
      obtain ⟨rfl, rfl, rfl⟩ := hrel
      go_wp2
      go_ret
      exact ⟨rfl, Below.refl _ _⟩
  · have HX := Aside0.mk (And.intro hT (And.intro hlb hn))
    have HR := Aside0.mk hr
    have HMF := Aside0.mk hM
    obtain ⟨big, hbig⟩ : ∃ big : Int, big = 1099511627776 := ⟨_, rfl⟩
    have hnb : (n : Int) ≤ big := by omega
    have hbig2 : big ≤ 1152921504606846976 := by omega
    have HBIG := Aside0.mk hbig
    clear hT hlb hn hn0 hr hM hbig
    go_enter Tryd.func8, Tryd.ntmps8
    go_wp2
    go_loopg [1, 5] (n + 1) (fun kq v1 v5 wr => ∃ (i : Nat) (m : Int), v1 = .int .i64 m ∧ v5 = .int .i64 i ∧ Aside0 (i + kq = n + 1 ∧ i ≤ n ∧ m = msf 1 ls i) ∧ Aside0 (Below w.heap.size w wr))
    case atStart => exact ⟨0, 1, rfl, rfl, ⟨by omega, by omega, rfl⟩, ⟨Below.refl _ _⟩⟩
    case round =>
      obtain ⟨i, m, rfl, rfl, HI, HB⟩ := hrel
      have HM := Aside0.mk (HX.out.1.under HB.out)
      by_cases hlt : i < n
      · have hd : decide ((i : Int) < (n : Int)) = true := decide_eq_true (by omega)
        have hd2 : decide (i < n) = true := decide_eq_true hlt
        have hi0 : (i : Int) < n := by omega
        have hmle := msf_le 1 ls HX.out.2.1 i
        rw [← HI.out.2.2] at hmle
        have hlsi := HX.out.2.1 i
        have hmb : 1 ≤ m ∧ m + 2 * (ls i : Int) + 100 ≤ big := by have := HBIG.out; have := HX.out.2.2; omega
        obtain ⟨hm1, hmm⟩ := hmb
        obtain ⟨l, hll⟩ : ∃ l, l = ls i := ⟨_, rfl⟩
        rw [← hll] at hmm hlsi
        have HLL := Aside0.mk hll
        have hm0 : 0 ≤ m := by omega
        have hmx : m ≤ big := by omega
        have hmx2 : m + 100 ≤ big := by omega
        have HI2 := Aside0.mk hlt
        obtain ⟨m5, hm5⟩ : ∃ m5, m5 = m + 1 + 1 + 2 * (l : Int) := ⟨_, rfl⟩
        have h50 : 0 ≤ m5 := by omega
        have h5n : decide (m5 < 0) = false := decide_eq_false (by omega)
        have h51 : m5 + 10 ≤ big := by omega
        have hmk : ∀ q ∈ mark M m l, ∀ W, TM M W base g n vs ls (msf 1 ls) ys n [] → W.cell? ⟨g, i * 5 + q.1, none⟩ = some q.2 := fun q hq W hW => hW.done hlt (by rw [← HI.out.2.2, ← HLL.out]; exact hq)
        have HK0 := Aside0.mk (fun W (hW : TM M W base g n vs ls (msf 1 ls) ys n []) => (show W.cell? ⟨g, i * 5, none⟩ = some (.int .i64 m) from hmk (0, _) (by simp [mark]) W hW))
        have HK1 := Aside0.mk (fun W (hW : TM M W base g n vs ls (msf 1 ls) ys n []) => (show W.cell? ⟨g, i * 5 + 1, none⟩ = some (.string (M (m + 1))) from hmk (1, _) (by simp [mark]) W hW))
        have HK3 := Aside0.mk (fun W (hW : TM M W base g n vs ls (msf 1 ls) ys n []) => (show W.cell? ⟨g, i * 5 + 3, none⟩ = some (.string (M m5)) from hmk (3, _) (by simp [mark, hm5]; congr 1; omega) W hW))
        have HK4 := Aside0.mk (fun W (hW : TM M W base g n vs ls (msf 1 ls) ys n []) => (show W.cell? ⟨g, i * 5 + 4, none⟩ = some (.bool ((m5 + 1) % 3 == 0)) from hmk (4, _) (by simp [mark, hm5]; congr 2; omega) W hW))
        obtain ⟨k1, hk1⟩ := (HMF.out (m + 1) (by omega) (by omega)).some
        obtain ⟨k6, hk6⟩ := (HMF.out m5 (by omega) (by omega)).some
        obtain ⟨kz, hkz⟩ := (heldAttrS_f HMF.out l (m + 1 + 1) (by omega) (by have := HBIG.out; omega)).some
        rw [← hm5] at hkz
        have HT1 := Aside0.mk hk1
        have HT6 := Aside0.mk hk6
        have HTZ := Aside0.mk hkz
        have HM5 := Aside0.mk hm5
        have c0 := HK0.out wr HM.out
        have c1 := HK1.out wr HM.out
        clear hlt hmle hll hlsi hmk hk1 hk6 hkz hm5 hmm
        go_upto_region 7 with (fail)
        have d1 : ∀ W, Below w.heap.size w W → W.cell? ⟨g, i * 5 + 1, none⟩ = some (.string (M (m + 1))) := fun W hW => HK1.out W (HX.out.1.under hW)
        have D1 := Aside0.mk d1
        clear d1
        go_region_law ((refine goes_ Tryd.func23 (by kernel_rfl) rfl #[.int .i64 (m + 1)] (by rfl) rfl rfl (by (try simp only [List.map_toArray, List.map_cons, List.map_nil]); rfl) ?_; refine (laws_markText.calls k1 (m + 1) (M (m + 1)) _ HT1.out).mono ?_; rintro e w5 ⟨rfl, hb5⟩; refine ⟨_, rfl, ?_⟩; have HB5 := Aside0.mk (show Below w.heap.size w w5 by exact bel_step (below_drew HB.out) hb5); have c15 := D1.out w5 HB5.out; clear hb5))
        all_goals
          obtain ⟨_, hyr, hye⟩ := (HX.out.1.under HB5.out).row i HI2.out
          rw [hye HI2.out, ← HI.out.2.2, ← HLL.out, show m + 2 = m + 1 + 1 by omega] at hyr
          have hx2 := (HX.out.1.under HB5.out).attrs HI2.out
          obtain ⟨Av, cv, ev⟩ := Kd.R_slice hyr
          rw [ev] at hyr hx2
          obtain ⟨_, hlc, hC⟩ := Kd.R_reads' hyr
          have hha := laws_heldAttrS.calls kz Av cv (markA M (m + 1 + 1) l) (m + 1 + 1) m5 w5 hC hlc HTZ.out
          rw [markA_length] at hha hx2
          have HHA := Aside0.mk hha
          clear hyr hye ev hlc hC hha c15
          go_upto_region 13 with ((go_at_call 25; refine HHA.out.mono ?_; rintro e w6 ⟨rfl, hb6⟩; have HB6 := Aside0.mk (bel_step HB5.out hb6); clear hb6))
          have c3 := HK3.out w6 (HX.out.1.under HB6.out)
          have D3 := Aside0.mk (fun W (hW : Below w.heap.size w W) => HK3.out W (HX.out.1.under hW))
          have D4 := Aside0.mk (fun W (hW : Below w.heap.size w W) => HK4.out W (HX.out.1.under hW))
          clear hx2
          go_region_law ((refine goes_ Tryd.func23 (by kernel_rfl) rfl #[.int .i64 m5] (by rfl) rfl rfl (by (try simp only [List.map_toArray, List.map_cons, List.map_nil]); rfl) ?_; refine (laws_markText.calls k6 m5 (M m5) _ HT6.out).mono ?_; rintro e w7 ⟨rfl, hb7⟩; refine ⟨_, rfl, ?_⟩; have HB7 := Aside0.mk (show Below w.heap.size w w7 by exact bel_step (below_drew HB6.out) hb7); have c37 := D3.out w7 HB7.out; clear hb7))
          all_goals
            have c47 := D4.out w7 HB7.out
            clear c37
            have HI3 := Aside0.mk (show i + 1 + (gk - 1) = n + 1 ∧ 0 < gk by have := HI.out; have := HI2.out; omega)
            have HMN := Aside0.mk (show m5 + 1 + 1 = msf 1 ls (i + 1) by unfold msf; rw [← HI.out.2.2, ← HLL.out]; have := HM5.out; omega)
            go_wp2
            have hii : (i : Int) + 1 = ((i + 1 : Nat) : Int) := by omega
            go_roundg (gk - 1)
            case measure => have := HI3.out; omega
            case rel => exact ⟨i + 1, _, rfl, by rw [hii], ⟨HI3.out.1, HI2.out, HMN.out⟩, HB7⟩
      · have hd : decide ((i : Int) < (n : Int)) = false := decide_eq_false (by omega)
        have hd2 : decide (i < n) = false := decide_eq_false hlt
        have HIN := Aside0.mk (show i = n by have := HI.out; omega)
        clear hlt
        go_wp2
        go_ret
        exact ⟨by rw [HR.out, ← HIN.out, ← HI.out.2.2]; rfl, HB.out⟩
end Go.Proofs.YtnjnoabldjodcaaDoor.Tok
set_option linter.unusedVariables false
set_option linter.unusedSimpArgs false
namespace Go.Proofs.YtnjnoabldjodcaaDoor.Tok
open Go.RowKit Go.Proofs.YtnjnoabldjodcaaDoorW.PrintWords Go.Proofs.YtnjnoabldjodcaaDoorW.PrintLast Go.Proofs.YtnjnoabldjodcaaDoorW.PrintMore Go.Proofs.YtnjnoabldjodcaaDoor.PFnExactTokens
structure ScanAt (base : Nat) (ok : Nat → Prop) (w : World) (b : Nat) (s : ByteArray) (i : Nat) (a v o : Value) (p : Bs) (out : List T) : Prop where
  blk : Sc w b s i a v o
  self : a = .pointer none ∨ a = .pointer (some ⟨b, 2, none⟩)
  text : ByteRow w base v p
  toks : Kd.S k36 36 w base ok o out
  bytes : ∀ x ∈ p, byte x
  bb : base ≤ b
def TokE : List Nat := 36 :: k36.E
theorem tok_types : ∀ q, q ∈ 36 :: k36.E → q = 36 ∨ q = 62 := by
  intro q hq
  simp [k36, k62, Kd.iso, Kd.pair, Kd.string, Kd.scalar, Kd.int, Kd.bool, Kd.slice] at hq
  omega
section
variable {base : Nat} {ok : Nat → Prop} {w w1 w8 : World} {b : Nat} {s : ByteArray} {i j : Nat} {a v o v8 : Value} {p p8 : Bs} {out : List T}
theorem ScanAt.lt (h : ScanAt base ok w b s i a v o p out) : base ≤ w.heap.size := Nat.le_trans h.bb (Nat.le_of_lt h.blk.lt)
theorem toks_step (h : Kd.S k36 36 w base ok o out) {S : Nat → Prop} (ht : Turned S w w1) (hS : ∀ k, ok k → S k → ∃ T cs, w.heap[k]? = some (.cells cs T (0, 0)) ∧ T ≠ 36 ∧ T ≠ 62) : Kd.S k36 36 w1 base ok o out := by
  have hb := Kd.S_bound h
  refine Kd.S_mono (Kd.S_move hb (fun k hk => ?_)) (fun k hk => hk.1)
  obtain ⟨hok, _, hlt, q, hq, cells, hc⟩ := hk
  refine ht.block k hlt (fun hs => ?_)
  obtain ⟨T, cs, hcs, h1, h2⟩ := hS k hok hs
  rw [hc] at hcs
  injection hcs with hcs
  injection hcs with _ hT
  rcases tok_types q hq with e | e
  · exact h1 (by rw [← hT, e])
  · exact h2 (by rw [← hT, e])
theorem byte_block (h : ByteRow w base v p) {k : Nat} (hk : some k = v.ownBlock) : ∃ cs, w.heap[k]? = some (.cells cs 5 (0, 0)) := by
  obtain ⟨inner, ho⟩ := Kd.R_own h
  exact own_typed ho k hk.symm
theorem ScanAt.move (h : ScanAt base ok w b s i a v o p out) (hs : Sc w8 b s j a v o) (ht : Turned (fun k => k = b) w w8) : ScanAt base ok w8 b s j a v o p out :=
  ⟨hs, h.self, byte_turned h.text ht (fun k hk e => byte_ne h.text h.blk (by decide) (by rw [hk, e])), toks_step h.toks ht (fun k _ e => by subst e; exact ⟨_, _, h.blk, by decide, by decide⟩), h.bytes, h.bb⟩
theorem ScanAt.at_ (h : ScanAt base ok w b s i a v o p out) (j : Nat) : ScanAt base ok (w.setCell ⟨b, 1, none⟩ (.int .i64 j)) b s j a v o p out := h.move (h.blk.at_ j) (Turned.put _ _ _ _)
theorem ScanAt.drewN (h : ScanAt base ok w b s i a v o p out) (m : Nat) : ScanAt base ok (w.drewN m) b s i a v o p out := h.move (h.blk.drewN m) ((Turned.refl _ _).drewN m)
theorem ScanAt.under (h : ScanAt base ok w b s i a v o p out) (hb : Below w.heap.size w w8) : ScanAt base ok w8 b s i a v o p out := h.move ((hb.block b h.blk.lt).trans h.blk) (Turned.of_below hb)
theorem ScanAt.mono {ok' : Nat → Prop} (h : ScanAt base ok w b s i a v o p out) (hm : ∀ k, ok k → k < w.heap.size → ok' k) : ScanAt base ok' w b s i a v o p out :=
  ⟨h.blk, h.self, h.text, Kd.S_mono (Kd.S_bound h.toks) (fun k hk => hm k hk.1 hk.2.2.1), h.bytes, h.bb⟩
theorem ScanAt.write (h : ScanAt base ok w b s i a v o p out) (h1 : w8.heap[b]? = some (.cells (((#[.string s, .int .i64 i, a, v, o] : Array Value).setIfInBounds 2 (.pointer (some ⟨b, 2, none⟩))).setIfInBounds (2 + 1) v8) 46 (0, 0))) (h2 : ByteRow w8 base v8 p8)
    (h3 : Turned (fun k => k = b ∨ some k = v.ownBlock) w w8) (h4 : ∀ x ∈ p8, byte x) : ScanAt base ok w8 b s i (.pointer (some ⟨b, 2, none⟩)) v8 o p8 out :=
  ⟨h1, .inr rfl, h2, toks_step h.toks h3 (fun k _ e => by
    rcases e with e | e
    · subst e; exact ⟨_, _, h.blk, by decide, by decide⟩
    · obtain ⟨cs, hc⟩ := byte_block h.text e; exact ⟨_, _, hc, by decide, by decide⟩), h4, h.bb⟩
end
theorem text_calls {base : Nat} {ok : Nat → Prop} {w : World} {b : Nat} {s : ByteArray} {i : Nat} {a v o : Value} {p : Bs} {out : List T} (h : ScanAt base ok w b s i a v o p out) (t : ByteArray) (hl : p.length + t.size ≤ 140737488355328) :
    Calls Tryd.prog 41 #[.pointer (some ⟨b, 2, none⟩), .string t] w fun e w' => ∃ v', e = .returned (.tuple #[.int .i64 t.size, .nilIface]) ∧ ScanAt base ok w' b s i (.pointer (some ⟨b, 2, none⟩)) v' o (p ++ B t) out ∧ Turned (fun k => k = b ∨ some k = v.ownBlock) w w' := by
  refine (writeString_calls (T := 46) (cs := #[.string s, .int .i64 i, a, v, o]) (o := 2) bld_scan (by decide) b w h.blk (by rcases h.self with e | e; exact .inl (by rw [e]; rfl); exact .inr (by rw [e]; rfl)) rfl h.text h.lt t hl).mono ?_
  rintro e w' ⟨v', rfl, h1, h2, h3⟩
  refine ⟨v', rfl, h.write h1 h2 h3 (fun x hx => ?_), h3⟩
  rcases List.mem_append.1 hx with hx | hx
  · exact h.bytes x hx
  · exact B_byte t x hx
theorem ScanAt.read {base : Nat} {ok : Nat → Prop} {w W w5 : World} {b : Nat} {s : ByteArray} {i : Nat} {a v o : Value} {p : Bs} {out : List T} (h : ScanAt base ok w b s i a v o p out) (ht : Turned (fun k => some k = v.ownBlock) W w5) (hW : W.heap = w.heap) (h1 : W.os = w.os) (h2 : W.tape = w.tape) (h3 : W.output = w.output) :
    Sc w5 b s i a v o ∧ Kd.S k36 36 w5 base ok o out ∧ Turned (fun k => k = b ∨ some k = v.ownBlock ∨ some k = o.ownBlock) w w5 ∧ w.heap.size ≤ w5.heap.size := by
  have ht2 : Turned (fun k => some k = v.ownBlock) w w5 := ⟨ht.os.trans h1, ht.tape.trans h2, ht.output.trans h3, by rw [← hW]; exact ht.size, fun k hk hs => by rw [← hW]; exact ht.block k (by rw [hW]; exact hk) hs⟩
  exact ⟨h.blk.turned ht2 (fun e => byte_ne h.text h.blk (by decide) e), toks_step h.toks ht2 (fun k _ e => by obtain ⟨cs, hc⟩ := byte_block h.text e; exact ⟨_, _, hc, by decide, by decide⟩), ht2.mono (fun k _ e => .inr (.inl e)), ht2.size⟩
theorem tok_ne {w : World} {base : Nat} {ok : Nat → Prop} {o : Value} {out : List T} (h : Kd.S k36 36 w base ok o out) {b T_ : Nat} {cs : Array Value} (hb : w.heap[b]? = some (.cells cs T_ (0, 0))) (hT : T_ ≠ 36) : some b ≠ o.ownBlock := Kd.S_ne h hb (Ne.symm hT)
set_option maxHeartbeats 8000000 in
set_option maxRecDepth 100000 in
theorem flush_calls {base : Nat} {ok : Nat → Prop} {w : World} {b : Nat} {s : ByteArray} {i : Nat} {a v o : Value} {p : Bs} {out : List T} (h : ScanAt base ok w b s i a v o p out) (hok : ∀ k, w.heap.size ≤ k → ok k) (hl : out.length < 2 ^ 30) :
    Calls Tryd.prog 21 #[.pointer (some ⟨b, 0, none⟩)] w fun e w' => ∃ a' v' o', e = .returned (.tuple #[]) ∧ ScanAt base ok w' b s i a' v' o' [] (out ++ fl p) ∧ Turned (fun k => k = b ∨ some k = v.ownBlock ∨ some k = o.ownBlock) w w' := by
  have HH := Aside0.mk h
  have HOK := Aside0.mk hok
  have HL := Aside0.mk hl
  obtain ⟨A3, c3, e3⟩ := Kd.R_slice h.text
  subst e3
  have HLEN := Aside0.mk (len_calls (T := 46) (cs := #[.string s, .int .i64 i, a, .slice A3 p.length c3, o]) (o := 2) b w h.blk rfl)
  by_cases hp : p = []
  · subst hp
    have HPN := Aside0.mk (show out ++ fl [] = out by rw [fl_nil, List.append_nil])
    clear h hok hl
    go_enter Tryd.func21, Tryd.ntmps21
    go_wp2_with ((go_at_call 49; refine HLEN.out.mono ?_; rintro e w8 ⟨rfl, rfl⟩))
    go_end0
    exact ⟨_, _, _, rfl, by rw [HPN.out]; exact HH.out, Turned.refl _ _⟩
  · have hpl : 0 < p.length := List.length_pos_iff.2 hp
    have hd : decide (0 < p.length) = true := decide_eq_true hpl
    have hdi : decide (0 < (p.length : Int)) = true := decide_eq_true (by omega)
    have HFL := Aside0.mk (show fl p = [(⟨1, ⟨#[]⟩, [], S p, false⟩ : T)] by unfold fl; rw [if_neg hp]; rfl)
    have HSTR := Aside0.mk (show ∀ W, Turned (fun _ => False) w W → Calls Tryd.prog 50 #[.pointer (some ⟨b, 2, none⟩)] W fun e w' => e = .returned (.string (S p)) ∧ Turned (fun k => some k = (Value.slice A3 p.length c3).ownBlock) w w' from fun W hW => (string_calls (T := 46) (cs := #[.string s, .int .i64 i, a, .slice A3 p.length c3, o]) (o := 2) (v := .slice A3 p.length c3) b W (h.blk.turned hW (fun e => e)) rfl (byte_turned h.text hW (fun _ _ e => e)) h.bytes).mono (fun e w' h2 => ⟨h2.1, (hW.mono (fun _ _ e => e.elim)).trans h2.2⟩))
    obtain ⟨A4, c4, e4⟩ := Kd.S_slice h.toks
    subst e4
    have c4_ : w.cell? ⟨b, 4, none⟩ = some (.slice A4 out.length c4) := blk_cell h.blk 4
    clear h hok hl hp hpl
    go_enter Tryd.func21, Tryd.ntmps21
    go_upto_region 1 with ((go_at_call 49; refine HLEN.out.mono ?_; rintro e w8 ⟨rfl, rfl⟩))
    go_region_law (first | ((refine Kd.S_append_step k36 (w0 := _) base (by rfl) (.tmp 11) (.tmp 17) 22 36 (.agg #[.int .i64 0, .string ⟨#[]⟩, .slice none 0 0, .string ⟨#[]⟩, .bool false]) 72 (by rfl) Tryd.underlying22 info36 rfl (by decide) (by omega) (.slice A4 out.length c4) out (⟨1, ⟨#[]⟩, [], S p, false⟩ : T) [.int .i64 1, .string ⟨#[]⟩, .slice none 0 0, .string (S p), .bool false] ok (fun _ => False) (by rfl) (by rfl) (k36_mkM _ _ _ (⟨1, ⟨#[]⟩, [], S p, false⟩ : T) (Kd.R_nil _ _ _ _ _)) (fun _ hk => hk.elim) (fun k hk => HOK.out k (Nat.le_trans HM5.out.2.2.2 hk)) (Kd.S_mono HM5.out.2.1 (fun _ hk => ⟨hk, fun e => e⟩)) (Below.refl _ _) (Nat.le_trans HH.out.lt HM5.out.2.2.2) (by have := HL.out; omega) ?_; intro v8 w8 hr8 hb8 hg8 hm8; have hq8 := (hg8.block b HM5.out.1.lt (tok_ne HM5.out.2.1 HM5.out.1 (by decide))).trans HM5.out.1; have k8 : w8.cell? ⟨b, 4, none⟩ = some (.slice A4 out.length c4) := blk_cell hq8 4; have f8 := blk_frozen hq8 4; obtain ⟨A8, c8, e8⟩ := Kd.S_slice hr8; subst e8; generalize hn8 : (out ++ [(⟨1, ⟨#[]⟩, [], S p, false⟩ : T)]).length = n8 at hr8; have HM8 := Aside0.mk (And.intro hq8 (And.intro hr8 (HM5.out.2.2.1.then_ (S' := fun k => k = b ∨ some k = (Value.slice A3 p.length c3).ownBlock ∨ some k = (Value.slice A4 out.length c4).ownBlock) ((Turned.of_grown hg8).mono (fun k _ h => .inr (.inr h))) (fun k _ h => h)))); clear hb8 hg8 hr8 hm8 hq8 hn8)) | (refine goes_ Tryd.func50 (by kernel_rfl) rfl #[.pointer (some ⟨b, 2, none⟩)] (by rfl) rfl rfl (by (try simp only [List.map_toArray, List.map_cons, List.map_nil]); rfl) ?_; refine (HSTR.out _ (by exact (Turned.refl _ _).drew)).mono ?_; rintro e w5 ⟨rfl, ht5⟩; refine ⟨_, rfl, ?_⟩; have HM5 := Aside0.mk (HH.out.read ht5 rfl rfl rfl rfl); have k5 : w5.cell? ⟨b, 4, none⟩ = some (.slice A4 out.length c4) := blk_cell HM5.out.1 4; have k5a : ∀ o, (w5.alloc o).cell? ⟨b, 4, none⟩ = some (.slice A4 out.length c4) := (fun o => by rw [← k5]; exact World.cell?_of_block (w := w5) (Below.heap_alloc w5 o b HM5.out.1.lt)); clear ht5))
    all_goals
      generalize hw9 : World.setCell _ _ _ = w9
      have HS9 := Aside0.mk (show Sc w9 b s i a (.slice A3 p.length c3) (.slice A8 n8 c8) by rw [← hw9]; exact blk_put HM8.out.1 4 _ rfl)
      have HK9 := Aside0.mk (show Kd.S k36 36 w9 base ok (.slice A8 n8 c8) (out ++ [(⟨1, ⟨#[]⟩, [], S p, false⟩ : T)]) by rw [← hw9]; exact toks_step HM8.out.2.1 (Turned.put _ _ _ _) (fun k _ e => by subst e; exact ⟨_, _, HM8.out.1, by decide, by decide⟩))
      have HT9 := Aside0.mk (show Turned (fun k => k = b ∨ some k = (Value.slice A3 p.length c3).ownBlock ∨ some k = (Value.slice A4 out.length c4).ownBlock) w w9 by rw [← hw9]; exact HM8.out.2.2.then_ (Turned.put _ _ _ _) (fun k _ e => .inl e))
      have HRS := Aside0.mk (show Calls Tryd.prog 51 #[.pointer (some ⟨b, 2, none⟩)] w9 fun e w' => e = .returned (.tuple #[]) ∧ Sc w' b s i (.pointer none) (.slice none 0 0) (.slice A8 n8 c8) ∧ Turned (fun k => k = b) w9 w' from reset_calls (T := 46) (cs := #[.string s, .int .i64 i, a, .slice A3 p.length c3, .slice A8 n8 c8]) (o := 2) bld_scan b w9 HS9.out)
      clear hw9
      go_wp2_with ((go_at_call 51; refine HRS.out.mono ?_; rintro e w10 ⟨rfl, hc, ht⟩; have HC10 := Aside0.mk hc; have HT10 := Aside0.mk ht; clear hc ht))
      go_end0
      refine ⟨_, _, _, rfl, ⟨HC10.out, .inl rfl, Kd.R_nil _ _ _ _ _, ?_, (fun x hx => by cases hx), HH.out.bb⟩, HT9.out.trans (HT10.out.mono (fun k _ e => .inl e))⟩
      rw [HFL.out]
      exact toks_step HK9.out HT10.out (fun k _ e => by subst e; exact ⟨_, _, HS9.out, by decide, by decide⟩)
end Go.Proofs.YtnjnoabldjodcaaDoor.Tok
