/- What the law's own helpers come to: sizes, copies, comparisons, marks. -/
import Derived.Test.YtcjaakbmabhmdaaPkTree
import Derived.Test.YtcjaakbmabhmdaaPkHA
import Derived.Test.YtcjaakbmabhmdaaPkPar
import Derived.Test.YtcjaakbmabhmdaaPkTo2
import Derived.Test.YtcjaakbmabhmdaaPkEqB
import Derived.Test.YtcjaakbmabhmdaaPkMk
import Derived.Test.YtcjaakbmabhmdaaX10
import Derived.Test.YtcjaakbmabhmdaaTr
import Derived.Test.YtcjaakbmabhmdaaFireSpec
import Derived.Test.YtcjaakbmabhmdaaFireTree
set_option linter.unusedVariables false
namespace Go.Proofs.Ytcjaakbmabhmdaa.FireSpec
open Go.RowKit Go.Proofs.YtcjaakbmabhmdaaW.PrintWords Go.Proofs.Ytcjaakbmabhmdaa.PFnExactFire Go.Proofs.Ytcjaakbmabhmdaa.Tr

abbrev LNode := S80
abbrev LAttr := S101
abbrev LHand := S46
/-- What the form's reading says of the sizes. -/
def attrFit (a : LAttr) : Prop := a.f0.size ≤ 9223372036854775807 ∧ a.f1.size ≤ 9223372036854775807
def nodeFit (n : LNode) : Prop := n.f2.size ≤ 9223372036854775807 ∧ n.f4.size ≤ 9223372036854775807 ∧ n.f3.length ≤ 9223372036854775807 ∧ ∀ a ∈ n.f3, attrFit a
def handFit (h : LHand) : Prop := h.f1.size ≤ 9223372036854775807
/-- An answer of a size function: too large, or what is left; and what it says of what it went through. -/
def Left (a r : Int) (p : Prop) : Prop := r = -1 ∨ (0 ≤ r ∧ r ≤ a ∧ p)

theorem szAttrS_l0 (xs : List LAttr) (hx : ∀ a ∈ xs, attrFit a) (hn : xs.length < 2 ^ 62) : ∀ (d i : Nat) (a : Int), i + d = xs.length → 0 ≤ a → a ≤ 1048576 →
    ∃ r, Ev (fun k => laws_szAttrS.l0 k xs a i) r ∧ Left a r True := by
  intro d
  induction d with
  | zero =>
    intro i a h h0 h1
    exact ⟨a, Ev.done fun k => by simp only [laws_szAttrS.l0]; rw [if_neg (by omega)], .inr ⟨h0, Int.le_refl _, trivial⟩⟩
  | succ d ih =>
    intro i a h h0 h1
    have hi : i < xs.length := by omega
    have hr : rd_T101 xs (i : Int) = xs[i] := by simp [rd_T101, hi]
    obtain ⟨f0, f1⟩ := hx _ (List.getElem_mem hi)
    by_cases c1 : a - (xs[i].f0.size : Int) < 0
    · exact ⟨-1, Ev.done fun k => by
        simp only [laws_szAttrS.l0, laws_szAttr.f, hr]
        rw [if_pos (by omega), if_pos (by omega), w64 (by omega) (by omega), if_pos c1]
        rfl, .inl rfl⟩
    by_cases c2 : a - (xs[i].f0.size : Int) - (xs[i].f1.size : Int) < 0
    · exact ⟨-1, Ev.done fun k => by
        simp only [laws_szAttrS.l0, laws_szAttr.f, hr]
        rw [if_pos (by omega), if_pos (by omega), w64 (n := a - _) (by omega) (by omega), if_neg c1, w64 (by omega) (by omega), if_pos c2]
        rfl, .inl rfl⟩
    obtain ⟨r, he, hl⟩ := ih (i + 1) (a - (xs[i].f0.size : Int) - (xs[i].f1.size : Int)) (by omega) (by omega) (by omega)
    refine ⟨r, he.step fun k => ?_, ?_⟩
    · simp only [laws_szAttrS.l0, laws_szAttr.f, hr]
      rw [if_pos (by omega), if_pos (by omega), w64 (n := a - _) (by omega) (by omega), if_neg c1, w64 (n := a - _ - _) (by omega) (by omega), if_neg c2]
      simp only [Option.bind_some]
      rw [if_neg c2, w64 (by omega) (by omega)]
      rfl
    · rcases hl with h | ⟨h2, h3, _⟩
      · exact .inl h
      · exact .inr ⟨h2, by omega, trivial⟩
theorem szAttrS_f (xs : List LAttr) (hx : ∀ a ∈ xs, attrFit a) (hn : xs.length ≤ 9223372036854775807) (a : Int) (h0 : 0 ≤ a) (h1 : a ≤ 1048576) :
    ∃ r, Ev (fun k => laws_szAttrS.f k xs a) r ∧ Left a r (xs.length ≤ a) := by
  by_cases c : a - (xs.length : Int) < 0
  · exact ⟨-1, Ev.same (Ev.const (-1)) fun k => by simp only [laws_szAttrS.f]; rw [w64 (by omega) (by omega), if_pos c], .inl rfl⟩
  · obtain ⟨r, he, hl⟩ := szAttrS_l0 xs hx (by omega) xs.length 0 (a - xs.length) (by omega) (by omega) (by omega)
    refine ⟨r, he.same fun k => by simp only [laws_szAttrS.f]; rw [w64 (by omega) (by omega), if_neg c]; rfl, ?_⟩
    rcases hl with h | ⟨h2, h3, _⟩
    · exact .inl h
    · exact .inr ⟨h2, by omega, by omega⟩
theorem szNode_f (n : LNode) (hn : nodeFit n) (a : Int) (h0 : 0 ≤ a) (h1 : a ≤ 1048576) :
    ∃ r, Ev (fun k => laws_szNode.f k n.f0 n.f1 n.f2 n.f3 n.f4 n.f5 a) r ∧ Left a r (n.f3.length ≤ 1048576) := by
  obtain ⟨f2, f4, f3, fa⟩ := hn
  by_cases c : a - (n.f2.size : Int) < 0
  · exact ⟨-1, Ev.same (Ev.const (-1)) fun k => by simp only [laws_szNode.f]; rw [w64 (by omega) (by omega), if_pos c], .inl rfl⟩
  obtain ⟨r, he, hl⟩ := szAttrS_f n.f3 fa f3 (a - (n.f2.size : Int)) (by omega) (by omega)
  have hgo : ∀ r', Ev (fun k => (laws_szAttrS.f k n.f3 (a - (n.f2.size : Int))).bind fun t => if t < 0 then some (-1) else if wrap64 (t - (n.f4.size : Int)) < 0 then some (-1) else some (wrap64 (t - (n.f4.size : Int)))) r' → Ev (fun k => laws_szNode.f k n.f0 n.f1 n.f2 n.f3 n.f4 n.f5 a) r' := fun r' h => h.same fun k => by
    simp only [laws_szNode.f]; rw [w64 (n := a - _) (by omega) (by omega), if_neg c]
  rcases hl with h | ⟨h2, h3, h4⟩
  · subst h
    exact ⟨-1, hgo _ (Ev.bind he (Ev.const _)), .inl rfl⟩
  · by_cases c2 : r - (n.f4.size : Int) < 0
    · refine ⟨-1, hgo _ (Ev.bind he ?_), .inl rfl⟩
      have : ¬ r < 0 := by omega
      simp only [this, if_false]
      rw [w64 (by omega) (by omega), if_pos c2]
      exact Ev.const _
    · refine ⟨r - (n.f4.size : Int), hgo _ (Ev.bind he ?_), .inr ⟨by omega, by omega, by omega⟩⟩
      have : ¬ r < 0 := by omega
      simp only [this, if_false]
      rw [w64 (by omega) (by omega), if_neg c2]
      exact Ev.const _
theorem szNodeS_l0 (xs : List LNode) (hx : ∀ a ∈ xs, nodeFit a) (hn : xs.length < 2 ^ 62) : ∀ (d i : Nat) (a : Int), i + d = xs.length → 0 ≤ a → a ≤ 1048576 →
    ∃ r, Ev (fun k => laws_szNodeS.l0 k xs a i) r ∧ Left a r (∀ n ∈ xs.drop i, n.f3.length ≤ 1048576) := by
  intro d
  induction d with
  | zero =>
    intro i a h h0 h1
    exact ⟨a, Ev.done fun k => by simp only [laws_szNodeS.l0]; rw [if_neg (by omega)], .inr ⟨h0, Int.le_refl _, by rw [List.drop_eq_nil_of_le (by omega)]; simp⟩⟩
  | succ d ih =>
    intro i a h h0 h1
    have hi : i < xs.length := by omega
    have hr : rd_T80 xs (i : Int) = xs[i] := by simp [rd_T80, hi]
    obtain ⟨r, he, hl⟩ := szNode_f xs[i] (hx _ (List.getElem_mem hi)) a h0 h1
    have hgo : ∀ r', Ev (fun k => (laws_szNode.f k xs[i].f0 xs[i].f1 xs[i].f2 xs[i].f3 xs[i].f4 xs[i].f5 a).bind fun t => if t < 0 then some (-1) else laws_szNodeS.l0 k xs t ((i + 1 : Nat) : Int)) r' → Ev (fun k => laws_szNodeS.l0 k xs a i) r' := fun r' h => h.step fun k => by
      simp only [laws_szNodeS.l0, hr]; rw [if_pos (by omega), if_pos (by omega), w64 (n := (i : Int) + 1) (by omega) (by omega)]; rfl
    rcases hl with h | ⟨h2, h3, h4⟩
    · subst h
      exact ⟨-1, hgo _ (Ev.bind he (Ev.const _)), .inl rfl⟩
    · obtain ⟨r2, he2, hl2⟩ := ih (i + 1) r (by omega) h2 (by omega)
      have : ¬ r < 0 := by omega
      refine ⟨r2, hgo _ (Ev.bind he (by simp only [this, if_false]; exact he2)), ?_⟩
      rcases hl2 with h | ⟨h5, h6, h7⟩
      · exact .inl h
      · refine .inr ⟨h5, by omega, fun n hn => ?_⟩
        rw [List.drop_eq_getElem_cons hi] at hn
        rcases List.mem_cons.1 hn with e | hn
        · rw [e]; exact h4
        · exact h7 n hn
theorem szTree_f (xs : List LNode) (hx : ∀ a ∈ xs, nodeFit a) (hn : xs.length ≤ 9223372036854775807) (a : Int) (h0 : 0 ≤ a) (h1 : a ≤ 1048576) :
    ∃ r, Ev (fun k => laws_szTree.f k xs a) r ∧ Left a r (xs.length ≤ a ∧ ∀ n ∈ xs, n.f3.length ≤ 1048576) := by
  have hgo : ∀ r r', Ev (fun k => laws_szNodeS.f k xs a) r → r' = (if r < 0 then -1 else r) → Ev (fun k => laws_szTree.f k xs a) r' := fun r r' h e => by
    refine Ev.same (g := fun k => (laws_szNodeS.f k xs a).bind fun t => if t < 0 then some (-1) else some t) (Ev.bind h ?_) (fun k => by simp only [laws_szTree.f])
    by_cases c : r < 0
    · simp only [c, if_true] at e ⊢; subst e; exact Ev.const _
    · simp only [c, if_false] at e ⊢; subst e; exact Ev.const _
  by_cases c : a - (xs.length : Int) < 0
  · exact ⟨-1, hgo (-1) _ (Ev.same (Ev.const (-1)) fun k => by simp only [laws_szNodeS.f]; rw [w64 (by omega) (by omega), if_pos c]) rfl, .inl rfl⟩
  · obtain ⟨r, he, hl⟩ := szNodeS_l0 xs hx (by omega) xs.length 0 (a - xs.length) (by omega) (by omega) (by omega)
    have he2 : Ev (fun k => laws_szNodeS.f k xs a) r := he.same fun k => by simp only [laws_szNodeS.f]; rw [w64 (by omega) (by omega), if_neg c]; rfl
    rw [List.drop_zero] at hl
    rcases hl with h | ⟨h2, h3, h4⟩
    · subst h; exact ⟨-1, hgo _ _ he2 rfl, .inl rfl⟩
    · exact ⟨r, hgo _ _ he2 (by rw [if_neg (by omega)]), .inr ⟨h2, by omega, by omega, h4⟩⟩
theorem szHandlerS_l0 (xs : List LHand) (hx : ∀ a ∈ xs, handFit a) (hn : xs.length < 2 ^ 62) : ∀ (d i : Nat) (a : Int), i + d = xs.length → 0 ≤ a → a ≤ 1048576 →
    ∃ r, Ev (fun k => laws_szHandlerS.l0 k xs a i) r ∧ Left a r True := by
  intro d
  induction d with
  | zero =>
    intro i a h h0 h1
    exact ⟨a, Ev.done fun k => by simp only [laws_szHandlerS.l0]; rw [if_neg (by omega)], .inr ⟨h0, Int.le_refl _, trivial⟩⟩
  | succ d ih =>
    intro i a h h0 h1
    have hi : i < xs.length := by omega
    have hr : rd_T46 xs (i : Int) = xs[i] := by simp [rd_T46, hi]
    have f1 := hx _ (List.getElem_mem hi)
    unfold handFit at f1
    by_cases c1 : a - (xs[i].f1.size : Int) < 0
    · exact ⟨-1, Ev.done fun k => by
        simp only [laws_szHandlerS.l0, laws_szHandler.f, hr]
        rw [if_pos (by omega), if_pos (by omega), w64 (by omega) (by omega), if_pos c1]
        rfl, .inl rfl⟩
    obtain ⟨r, he, hl⟩ := ih (i + 1) (a - (xs[i].f1.size : Int)) (by omega) (by omega) (by omega)
    refine ⟨r, he.step fun k => ?_, ?_⟩
    · simp only [laws_szHandlerS.l0, laws_szHandler.f, hr]
      rw [if_pos (by omega), if_pos (by omega), w64 (n := a - _) (by omega) (by omega), if_neg c1]
      simp only [Option.bind_some]
      rw [if_neg c1, w64 (by omega) (by omega)]
      rfl
    · rcases hl with h | ⟨h2, h3, _⟩
      · exact .inl h
      · exact .inr ⟨h2, by omega, trivial⟩
theorem szHandlerS_f (xs : List LHand) (hx : ∀ a ∈ xs, handFit a) (hn : xs.length ≤ 9223372036854775807) (a : Int) (h0 : 0 ≤ a) (h1 : a ≤ 1048576) :
    ∃ r, Ev (fun k => laws_szHandlerS.f k xs a) r ∧ Left a r (xs.length ≤ a) := by
  by_cases c : a - (xs.length : Int) < 0
  · exact ⟨-1, Ev.same (Ev.const (-1)) fun k => by simp only [laws_szHandlerS.f]; rw [w64 (by omega) (by omega), if_pos c], .inl rfl⟩
  · obtain ⟨r, he, hl⟩ := szHandlerS_l0 xs hx (by omega) xs.length 0 (a - xs.length) (by omega) (by omega) (by omega)
    refine ⟨r, he.same fun k => by simp only [laws_szHandlerS.f]; rw [w64 (by omega) (by omega), if_neg c]; rfl, ?_⟩
    rcases hl with h | ⟨h2, h3, _⟩
    · exact .inl h
    · exact .inr ⟨h2, by omega, by omega⟩

/-! ### copies -/
def cpAttr (a : LAttr) : Attr := ⟨a.f0, a.f1⟩
def cpNode (n : LNode) : Node := ⟨n.f0, n.f1, n.f2, n.f3.map cpAttr, n.f4, n.f5⟩
def cpHand (h : LHand) : Hand := ⟨h.f0, h.f1, h.f2, h.f3⟩
theorem fill_step {α β : Type} (xs : List α) (f : α → β) (z : β) (i : Nat) (hi : i < xs.length) :
    ((xs.take i).map f ++ List.replicate (xs.length - i) z).set i (f xs[i]) = (xs.take (i + 1)).map f ++ List.replicate (xs.length - (i + 1)) z := by
  have hl : ((xs.take i).map f).length = i := by simp; omega
  rw [List.set_append_right _ _ (by omega), hl, Nat.sub_self, List.take_succ_eq_append_getElem hi, List.map_append]
  obtain ⟨m, hm⟩ : ∃ m, xs.length - i = m + 1 := ⟨xs.length - i - 1, by omega⟩
  rw [hm, List.replicate_succ, List.set_cons_zero, show xs.length - (i + 1) = m from by omega]
  simp
theorem toAttrS_l0 (xs : List LAttr) (hn : xs.length < 2 ^ 40) : ∀ (d i : Nat), i + d = xs.length →
    Ev (fun k => laws_toAttrS.l0 k xs ((xs.take i).map cpAttr ++ List.replicate (xs.length - i) z92) i) (xs.map cpAttr) := by
  intro d
  induction d with
  | zero =>
    intro i h
    rw [List.take_of_length_le (by omega), show xs.length - i = 0 from by omega]
    exact Ev.done fun k => by simp only [laws_toAttrS.l0]; rw [if_neg (by omega)]; simp
  | succ d ih =>
    intro i h
    have hi : i < xs.length := by omega
    have hr : rd_T101 xs (i : Int) = xs[i] := by simp [rd_T101, hi]
    refine (ih (i + 1) (by omega)).step fun k => ?_
    simp only [laws_toAttrS.l0, laws_toAttr.f, hr]
    rw [if_pos (by omega), if_pos (by omega)]
    simp only [Option.bind_some]
    rw [if_pos (by simp; omega), w64 (by omega) (by omega), Int.toNat_natCast, ← fill_step xs cpAttr z92 i hi]
    rfl
theorem toAttrS_f (xs : List LAttr) (hn : xs.length ≤ 1048576) : Ev (fun k => laws_toAttrS.f k xs) (xs.map cpAttr) := by
  have := toAttrS_l0 xs (by omega) xs.length 0 (by omega)
  simp only [List.take_zero, List.map_nil, List.nil_append, Nat.sub_zero] at this
  exact this.same fun k => by simp only [laws_toAttrS.f]; rw [if_pos (by omega), if_pos (by omega)]; rfl
theorem toNodeS_l0 (xs : List LNode) (ha : ∀ n ∈ xs, n.f3.length ≤ 1048576) (hn : xs.length < 2 ^ 40) : ∀ (d i : Nat), i + d = xs.length →
    Ev (fun k => laws_toNodeS.l0 k xs ((xs.take i).map cpNode ++ List.replicate (xs.length - i) z52) i) (xs.map cpNode) := by
  intro d
  induction d with
  | zero =>
    intro i h
    rw [List.take_of_length_le (by omega), show xs.length - i = 0 from by omega]
    exact Ev.done fun k => by simp only [laws_toNodeS.l0]; rw [if_neg (by omega)]; simp
  | succ d ih =>
    intro i h
    have hi : i < xs.length := by omega
    have hr : rd_T80 xs (i : Int) = xs[i] := by simp [rd_T80, hi]
    have he := toAttrS_f xs[i].f3 (ha _ (List.getElem_mem hi))
    refine Ev.step (g := fun k => (laws_toAttrS.f k xs[i].f3).bind fun t => laws_toNodeS.l0 k xs (((xs.take i).map cpNode ++ List.replicate (xs.length - i) z52).set i ⟨xs[i].f0, xs[i].f1, xs[i].f2, t, xs[i].f4, xs[i].f5⟩) ((i + 1 : Nat) : Int)) (Ev.bind he ?_) (fun k => ?_)
    · have := ih (i + 1) (by omega)
      rw [← fill_step xs cpNode z52 i hi] at this
      exact this
    · simp only [laws_toNodeS.l0, laws_toNode.f, hr]
      rw [if_pos (by omega), if_pos (by omega)]
      cases laws_toAttrS.f k xs[i].f3 with
      | none => rfl
      | some t =>
        simp only [Option.bind_some]
        rw [if_pos (by simp; omega), w64 (by omega) (by omega), Int.toNat_natCast]
        rfl
theorem toTree_f (xs : List LNode) (ha : ∀ n ∈ xs, n.f3.length ≤ 1048576) (hn : xs.length ≤ 1048576) : Ev (fun k => laws_toTree.f k xs) (xs.map cpNode) := by
  have := toNodeS_l0 xs ha (by omega) xs.length 0 (by omega)
  simp only [List.take_zero, List.map_nil, List.nil_append, Nat.sub_zero] at this
  have h2 : Ev (fun k => laws_toNodeS.f k xs) (xs.map cpNode) := this.same fun k => by simp only [laws_toNodeS.f]; rw [if_pos (by omega), if_pos (by omega)]; rfl
  exact Ev.same (g := fun k => (laws_toNodeS.f k xs).bind fun t => some t) (Ev.bind h2 (Ev.const _)) (fun k => by simp only [laws_toTree.f])
theorem toHandlerS_l0 (xs : List LHand) (hn : xs.length < 2 ^ 40) : ∀ (d i : Nat), i + d = xs.length →
    Ev (fun k => laws_toHandlerS.l0 k xs ((xs.take i).map cpHand ++ List.replicate (xs.length - i) z53) i) (xs.map cpHand) := by
  intro d
  induction d with
  | zero =>
    intro i h
    rw [List.take_of_length_le (by omega), show xs.length - i = 0 from by omega]
    exact Ev.done fun k => by simp only [laws_toHandlerS.l0]; rw [if_neg (by omega)]; simp
  | succ d ih =>
    intro i h
    have hi : i < xs.length := by omega
    have hr : rd_T46 xs (i : Int) = xs[i] := by simp [rd_T46, hi]
    refine (ih (i + 1) (by omega)).step fun k => ?_
    simp only [laws_toHandlerS.l0, laws_toHandler.f, hr]
    rw [if_pos (by omega), if_pos (by omega)]
    simp only [Option.bind_some]
    rw [if_pos (by simp; omega), w64 (by omega) (by omega), Int.toNat_natCast, ← fill_step xs cpHand z53 i hi]
    rfl
theorem toHandlerS_f (xs : List LHand) (hn : xs.length ≤ 1048576) : Ev (fun k => laws_toHandlerS.f k xs) (xs.map cpHand) := by
  have := toHandlerS_l0 xs (by omega) xs.length 0 (by omega)
  simp only [List.take_zero, List.map_nil, List.nil_append, Nat.sub_zero] at this
  exact this.same fun k => by simp only [laws_toHandlerS.f]; rw [if_pos (by omega), if_pos (by omega)]; rfl

/-! ### comparisons with the same -/
theorem eqIntS_f (xs : List Int) (hn : xs.length < 2 ^ 62) : Ev (fun k => laws_eqIntS.f k xs xs) true := by
  have key : ∀ (d i : Nat), i + d = xs.length → Ev (fun k => laws_eqIntS.l0 k xs xs i) true := by
    intro d
    induction d with
    | zero => intro i h; exact Ev.done fun k => by simp only [laws_eqIntS.l0]; rw [if_neg (by omega)]
    | succ d ih =>
      intro i h
      refine (ih (i + 1) (by omega)).step fun k => ?_
      simp only [laws_eqIntS.l0]
      rw [if_pos (by omega), if_pos (by omega), if_pos (by omega), if_pos trivial, w64 (by omega) (by omega)]
      rfl
  exact (key xs.length 0 (by omega)).same fun k => by simp only [laws_eqIntS.f]; rw [if_pos trivial]; rfl
theorem eqAttrS_f (xs : List Attr) (hn : xs.length < 2 ^ 62) : Ev (fun k => laws_eqAttrS.f k xs xs) true := by
  have key : ∀ (d i : Nat), i + d = xs.length → Ev (fun k => laws_eqAttrS.l0 k xs xs i) true := by
    intro d
    induction d with
    | zero => intro i h; exact Ev.done fun k => by simp only [laws_eqAttrS.l0]; rw [if_neg (by omega)]
    | succ d ih =>
      intro i h
      refine (ih (i + 1) (by omega)).step fun k => ?_
      simp only [laws_eqAttrS.l0, laws_eqAttr.f]
      rw [if_pos (by omega), if_pos (by omega), if_pos (by omega), if_pos trivial, if_pos trivial, w64 (by omega) (by omega)]
      rfl
  exact (key xs.length 0 (by omega)).same fun k => by simp only [laws_eqAttrS.f]; rw [if_pos trivial]; rfl
theorem eqNodeS_f (xs : List Node) (ha : ∀ n ∈ xs, n.f3.length < 2 ^ 62) (hn : xs.length < 2 ^ 62) : Ev (fun k => laws_eqNodeS.f k xs xs) true := by
  have key : ∀ (d i : Nat), i + d = xs.length → Ev (fun k => laws_eqNodeS.l0 k xs xs i) true := by
    intro d
    induction d with
    | zero => intro i h; exact Ev.done fun k => by simp only [laws_eqNodeS.l0]; rw [if_neg (by omega)]
    | succ d ih =>
      intro i h
      have hi : i < xs.length := by omega
      have hr : rd_T52 xs (i : Int) = xs[i] := by simp [rd_T52, hi]
      have he := eqAttrS_f xs[i].f3 (ha _ (List.getElem_mem hi))
      refine Ev.step (g := fun k => (laws_eqAttrS.f k xs[i].f3 xs[i].f3).bind fun t => if t = true then laws_eqNodeS.l0 k xs xs ((i + 1 : Nat) : Int) else some false) (Ev.bind he (by simp only [if_true]; exact ih (i + 1) (by omega))) (fun k => ?_)
      simp only [laws_eqNodeS.l0, laws_eqNode.f, hr]
      rw [if_pos (by omega), if_pos (by omega), if_pos (by omega), if_pos trivial, if_pos trivial, if_pos trivial]
      cases laws_eqAttrS.f k xs[i].f3 xs[i].f3 with
      | none => simp only [Option.bind_none]
      | some t =>
        simp only [Option.bind_some]
        cases t with
        | false => simp
        | true =>
          simp only [if_true, Option.bind_some]
          rw [w64 (by omega) (by omega)]
          rfl
  exact (key xs.length 0 (by omega)).same fun k => by simp only [laws_eqNodeS.f]; rw [if_pos trivial]; rfl
theorem eqTree_f (xs : List Node) (ha : ∀ n ∈ xs, n.f3.length < 2 ^ 62) (hn : xs.length < 2 ^ 62) : Ev (fun k => laws_eqTree.f k xs xs) true :=
  Ev.same (g := fun k => (laws_eqNodeS.f k xs xs).bind fun t => if t = true then some true else some false) (Ev.bind (eqNodeS_f xs ha hn) (Ev.const _)) (fun k => by simp only [laws_eqTree.f])
theorem eqHandlerS_f (xs : List Hand) (hn : xs.length < 2 ^ 62) : Ev (fun k => laws_eqHandlerS.f k xs xs) true := by
  have key : ∀ (d i : Nat), i + d = xs.length → Ev (fun k => laws_eqHandlerS.l0 k xs xs i) true := by
    intro d
    induction d with
    | zero => intro i h; exact Ev.done fun k => by simp only [laws_eqHandlerS.l0]; rw [if_neg (by omega)]
    | succ d ih =>
      intro i h
      refine (ih (i + 1) (by omega)).step fun k => ?_
      simp only [laws_eqHandlerS.l0, laws_eqHandler.f]
      rw [if_pos (by omega), if_pos (by omega), if_pos (by omega), if_pos trivial, if_pos trivial, if_neg (by simp), if_pos trivial, w64 (by omega) (by omega)]
      rfl
  exact (key xs.length 0 (by omega)).same fun k => by simp only [laws_eqHandlerS.f]; rw [if_pos trivial]; rfl

/-! ### marks -/
theorem markText_f (n : Int) (h0 : 0 ≤ n) (h1 : n < 2 ^ 60) : ∃ r, Ev (fun k => laws_markText.f k n) r := by
  have key : ∀ (m : Nat) (n : Int) (s : ByteArray), n.toNat ≤ m → 0 ≤ n → (s.size : Int) + n < 2 ^ 61 → ∃ r, Ev (fun k => laws_markText.l0 k n s) r := by
    intro m
    induction m with
    | zero =>
      intro n s h0 h1 h2
      exact ⟨_, Ev.done fun k => by simp only [laws_markText.l0]; rw [if_neg (by omega), if_pos (by omega)]⟩
    | succ m ih =>
      intro n s h0 h1 h2
      by_cases c : n > 0
      · have hq : Int.tdiv n 10 = n / 10 := Int.tdiv_eq_ediv_of_nonneg h1
        have hs : ∀ x : Int, (strOfNums [x]).size = 1 := fun x => by simp [strOfNums, ByteArray.size]
        obtain ⟨r, he⟩ := ih (n / 10) ((strOfNums [(wrap64 (48 + (Int.tmod n 10))) % 256]) ++ s) (by omega) (by omega) (by rw [ByteArray.size_append, hs]; omega)
        refine ⟨r, he.step fun k => ?_⟩
        simp only [laws_markText.l0]
        rw [if_pos c, hq, w64 (n := n / 10) (by omega) (by omega)]
        simp only [Option.bind_some]
        rw [if_pos (by rw [hs]; omega)]
      · exact ⟨_, Ev.done fun k => by simp only [laws_markText.l0]; rw [if_neg c, if_pos (by omega)]⟩
  by_cases c : n ≤ 0
  · exact ⟨_, Ev.same (Ev.const _) fun k => by simp only [laws_markText.f]; rw [if_pos c]⟩
  · obtain ⟨r, he⟩ := key n.toNat n ⟨#[]⟩ (Nat.le_refl _) h0 (by simp [ByteArray.size]; omega)
    exact ⟨r, he.same fun k => by simp only [laws_markText.f]; rw [if_neg c]⟩
theorem markAttrS_f (xs : List Attr) (a : Int) (h0 : 0 ≤ a) (hn : a + 2 * xs.length < 2 ^ 59) : ∃ ys, Ev (fun k => laws_markAttrS.f k xs a) (a + 2 * xs.length, ys) := by
  have key : ∀ (d i : Nat) (ys : List Attr) (b : Int), i + d = ys.length → 0 ≤ b → b + 2 * (d : Int) < 2 ^ 59 → ys.length < 2 ^ 59 → ∃ zs, Ev (fun k => laws_markAttrS.l0 k ys b i) (b + 2 * d, zs) := by
    intro d
    induction d with
    | zero => intro i ys b h _ _ _; exact ⟨ys, Ev.done fun k => by simp only [laws_markAttrS.l0]; rw [if_neg (by omega)]; simp⟩
    | succ d ih =>
      intro i ys b h hb hb2 hl
      obtain ⟨t1, e1⟩ := markText_f b hb (by omega)
      obtain ⟨t2, e2⟩ := markText_f (b + 1) (by omega) (by omega)
      obtain ⟨zs, he⟩ := ih (i + 1) ((ys.set i ⟨t1, (rd_T92 ys i).f1⟩).set i ⟨(rd_T92 (ys.set i ⟨t1, (rd_T92 ys i).f1⟩) i).f0, t2⟩) (b + 1 + 1) (by simp; omega) (by omega) (by omega) (by simp; omega)
      refine ⟨zs, ?_⟩
      rw [show b + 2 * ((d + 1 : Nat) : Int) = b + 1 + 1 + 2 * (d : Int) from by omega]
      refine Ev.step (g := fun k => (laws_markText.f k b).bind fun t1 => (laws_markText.f k (b + 1)).bind fun t2 => laws_markAttrS.l0 k ((ys.set i ⟨t1, (rd_T92 ys i).f1⟩).set i ⟨(rd_T92 (ys.set i ⟨t1, (rd_T92 ys i).f1⟩) i).f0, t2⟩) (b + 1 + 1) ((i + 1 : Nat) : Int)) (Ev.bind e1 (Ev.bind e2 he)) (fun k => ?_)
      simp only [laws_markAttrS.l0, Option.bind_some, Int.toNat_natCast]
      have c0 : (0 : Int) ≤ (i : Int) := by omega
      rw [if_pos (by omega), w64 (n := b + 1) (by omega) (by omega), w64 (n := b + 1 + 1) (by omega) (by omega), w64 (n := (i : Int) + 1) (by omega) (by omega)]
      simp only [c0, if_true]
      rfl
  have := key xs.length 0 xs a (by omega) h0 (by omega) (by omega)
  exact this
theorem markHandlerS_f (xs : List Hand) (a : Int) (h0 : 0 ≤ a) (hn : a + 4 * xs.length < 2 ^ 59) : ∃ ys, Ev (fun k => laws_markHandlerS.f k xs a) (a + 4 * xs.length, ys) := by
  have key : ∀ (d i : Nat) (ys : List Hand) (b : Int), i + d = ys.length → 0 ≤ b → b + 4 * (d : Int) < 2 ^ 59 → ys.length < 2 ^ 59 → ∃ zs, Ev (fun k => laws_markHandlerS.l0 k ys b i) (b + 4 * d, zs) := by
    intro d
    induction d with
    | zero => intro i ys b h _ _ _; exact ⟨ys, Ev.done fun k => by simp only [laws_markHandlerS.l0]; rw [if_neg (by omega)]; simp⟩
    | succ d ih =>
      intro i ys b h hb hb2 hl
      obtain ⟨t1, e1⟩ := markText_f (b + 1) (by omega) (by omega)
      obtain ⟨ys2, hy2⟩ : ∃ y, y = ys.set i (⟨b, (rd_T53 ys i).f1, (rd_T53 ys i).f2, (rd_T53 ys i).f3⟩ : S53) := ⟨_, rfl⟩
      obtain ⟨ys3, hy3⟩ : ∃ y, y = ys2.set i (⟨(rd_T53 ys2 i).f0, t1, (rd_T53 ys2 i).f2, (rd_T53 ys2 i).f3⟩ : S53) := ⟨_, rfl⟩
      obtain ⟨ys4, hy4⟩ : ∃ y, y = ys3.set i (⟨(rd_T53 ys3 i).f0, (rd_T53 ys3 i).f1, ((Int.tmod (b + 1 + 1) 3) == 0), (rd_T53 ys3 i).f3⟩ : S53) := ⟨_, rfl⟩
      have hl4 : ys4.length = ys.length := by rw [hy4, hy3, hy2]; simp
      obtain ⟨zs, he⟩ := ih (i + 1) (ys4.set i ⟨(rd_T53 ys4 i).f0, (rd_T53 ys4 i).f1, (rd_T53 ys4 i).f2, b + 1 + 1 + 1⟩) (b + 1 + 1 + 1 + 1) (by simp [hl4]; omega) (by omega) (by omega) (by simp [hl4]; omega)
      refine ⟨zs, ?_⟩
      rw [show b + 4 * ((d + 1 : Nat) : Int) = b + 1 + 1 + 1 + 1 + 4 * (d : Int) from by omega]
      obtain ⟨K, hK⟩ := e1
      replace hK : ∀ k, K ≤ k → laws_markText.f k (b + 1) = some t1 := hK
      obtain ⟨M, hM⟩ := he
      refine ⟨max K M + 1, fun k hk => ?_⟩
      obtain ⟨k, rfl⟩ : ∃ m, k = m + 1 := ⟨k - 1, by omega⟩
      simp only [laws_markHandlerS.l0, Option.bind_some, Int.toNat_natCast]
      rw [if_pos (by omega), if_pos (by omega), w64 (n := b + 1) (by omega) (by omega), hK k (by omega)]
      simp only [Option.bind_some]
      rw [w64 (n := b + 1 + 1) (by omega) (by omega), w64 (n := b + 1 + 1 + 1) (by omega) (by omega), w64 (n := b + 1 + 1 + 1 + 1) (by omega) (by omega), w64 (n := (i : Int) + 1) (by omega) (by omega), ← hy2, ← hy3, ← hy4]
      exact hM k (by omega)
  exact key xs.length 0 xs a (by omega) h0 (by omega) (by omega)
def countUp (a : Int) : Nat → List Int
  | 0 => []
  | n + 1 => a :: countUp (a + 1) n
theorem countUp_length (a : Int) (n : Nat) : (countUp a n).length = n := by
  induction n generalizing a with
  | zero => rfl
  | succ n ih => simp [countUp, ih]
theorem markIntS_f (xs : List Int) (a : Int) (h0 : 0 ≤ a) (hn : a + xs.length < 2 ^ 59) : Ev (fun k => laws_markIntS.f k xs a) (a + xs.length, countUp a xs.length) := by
  have key : ∀ (d i : Nat) (pre ys : List Int) (b : Int), pre.length = i → ys.length = d → 0 ≤ b → b + (d : Int) < 2 ^ 60 → i + d < 2 ^ 60 → Ev (fun k => laws_markIntS.l0 k (pre ++ ys) b i) (b + d, pre ++ countUp b d) := by
    intro d
    induction d with
    | zero =>
      intro i pre ys b hp hy _ _ _
      obtain rfl : ys = [] := List.eq_nil_of_length_eq_zero hy
      exact Ev.done fun k => by simp only [laws_markIntS.l0]; rw [if_neg (by simp; omega)]; simp [countUp]
    | succ d ih =>
      intro i pre ys b hp hy hb hb2 hi
      obtain ⟨y, ys, rfl⟩ : ∃ y l, ys = y :: l := by cases ys with
        | nil => simp at hy
        | cons y l => exact ⟨y, l, rfl⟩
      have := ih (i + 1) (pre ++ [b]) ys (b + 1) (by simp [hp]) (by simpa using hy) (by omega) (by omega) (by omega)
      rw [show b + ((d + 1 : Nat) : Int) = b + 1 + (d : Int) from by omega]
      simp only [countUp, List.append_assoc, List.singleton_append] at this ⊢
      refine this.step fun k => ?_
      simp only [laws_markIntS.l0]
      rw [if_pos (by simp; omega), if_pos (by omega), w64 (n := b + 1) (by omega) (by omega), w64 (n := (i : Int) + 1) (by omega) (by omega), Int.toNat_natCast, List.set_append_right _ _ (by omega)]
      rw [show i - pre.length = 0 from by omega, List.set_cons_zero]
      rfl
  have := key xs.length 0 [] xs a rfl rfl h0 (by omega) (by omega)
  simp only [List.nil_append] at this
  exact this
theorem countUp_at (a : Int) (n i : Nat) (hi : i < n) : rd (countUp a n) (i : Int) = a + i := by
  have key : ∀ (n i : Nat) (a : Int), i < n → (countUp a n).getD i 0 = a + i := by
    intro n
    induction n with
    | zero => intro i a h; omega
    | succ n ih =>
      intro i a h
      cases i with
      | zero => simp [countUp]
      | succ i =>
        simp only [countUp, List.getD_cons_succ]
        rw [ih i (a + 1) (by omega)]
        omega
  exact key n i a hi
theorem heldIntS_f (a : Int) (n : Nat) (h0 : 0 ≤ a) (hn : a + n < 2 ^ 60) : Ev (fun k => laws_heldIntS.f k (countUp a n) a) (a + n) := by
  have key : ∀ (d i : Nat), i + d = n → Ev (fun k => laws_heldIntS.l0 k (countUp a n) (a + i) i) (a + n) := by
    intro d
    induction d with
    | zero => intro i h; exact Ev.done fun k => by simp only [laws_heldIntS.l0]; rw [if_neg (by rw [countUp_length]; omega)]; congr 2; omega
    | succ d ih =>
      intro i h
      refine (ih (i + 1) (by omega)).step fun k => ?_
      simp only [laws_heldIntS.l0]
      rw [if_pos (by rw [countUp_length]; omega), if_pos (by omega), countUp_at a n i (by omega), if_pos rfl, w64 (n := a + (i : Int) + 1) (by omega) (by omega), w64 (n := (i : Int) + 1) (by omega) (by omega)]
      congr 1
      omega
  have := key n 0 (by omega)
  exact this.same fun k => by simp only [laws_heldIntS.f]; congr 1; omega
end Go.Proofs.Ytcjaakbmabhmdaa.FireSpec
