/- What the reference's functions on trees and handlers come to: plain functions of lists. -/
import Derived.Test.YtcjaakbmabhmdaaPkTree
import Derived.Test.YtcjaakbmabhmdaaPkHA
import Derived.Test.YtcjaakbmabhmdaaPkPar
import Derived.Test.YtcjaakbmabhmdaaPkTo2
import Derived.Test.YtcjaakbmabhmdaaPkEqB
import Derived.Test.YtcjaakbmabhmdaaPkMk
import Derived.Test.YtcjaakbmabhmdaaX10
import Derived.Test.YtcjaakbmabhmdaaTr
set_option linter.unusedVariables false
namespace Go.Proofs.Ytcjaakbmabhmdaa.FireSpec
open Go.RowKit Go.Proofs.YtcjaakbmabhmdaaW.PrintWords Go.Proofs.Ytcjaakbmabhmdaa.PFnExactFire Go.Proofs.Ytcjaakbmabhmdaa.Tr

theorem w64 {n : Int} (h0 : -9223372036854775808 ≤ n) (h1 : n < 9223372036854775808) : wrap64 n = n := by
  unfold wrap64
  omega
theorem bytes_eq {a b : ByteArray} : a.toList = b.toList ↔ a = b := by
  constructor
  · intro h
    rw [ByteArray.toList_eq, ByteArray.toList_eq] at h
    obtain ⟨⟨x⟩⟩ := a
    obtain ⟨⟨y⟩⟩ := b
    simpa using h
  · intro h; rw [h]
theorem bytes_nil {a : ByteArray} : a.toList = [] ↔ a = ⟨#[]⟩ := by
  rw [ByteArray.toList_eq]
  constructor
  · intro h
    obtain ⟨⟨x⟩⟩ := a
    simpa using h
  · intro h; rw [h]

abbrev Node := S52
abbrev Attr := S92
abbrev Hand := S53

/-! ### l2Has -/
theorem l2Has_l0 (xs : List Attr) (n : ByteArray) (hn : xs.length < 2 ^ 62) : ∀ (d i k : Nat), i + d = xs.length → d < k →
    spec_l2Has.l0 k xs n i = some ((xs.drop i).any (fun a => decide (a.f0 = n))) := by
  intro d
  induction d with
  | zero =>
    intro i k h hk
    obtain ⟨k, rfl⟩ : ∃ m, k = m + 1 := ⟨k - 1, by omega⟩
    simp only [spec_l2Has.l0]
    rw [if_neg (by omega), List.drop_eq_nil_of_le (by omega)]
    rfl
  | succ d ih =>
    intro i k h hk
    obtain ⟨k, rfl⟩ : ∃ m, k = m + 1 := ⟨k - 1, by omega⟩
    simp only [spec_l2Has.l0]
    have hi : i < xs.length := by omega
    rw [if_pos (by omega), if_pos (by omega), List.drop_eq_getElem_cons hi, List.any_cons]
    have hr : rd_T92 xs (i : Int) = xs[i] := by simp [rd_T92, hi]
    rw [hr]
    by_cases e : xs[i].f0 = n
    · rw [if_pos (bytes_eq.2 e)]; simp [e]
    · rw [if_neg (fun h => e (bytes_eq.1 h)), w64 (by omega) (by omega), show ((i : Int) + 1) = ((i + 1 : Nat) : Int) from by omega, ih (i + 1) k (by omega) (by omega)]
      simp [e]
theorem l2Has_f (xs : List Attr) (n : ByteArray) (hn : xs.length < 2 ^ 62) (k : Nat) (hk : xs.length < k) : spec_l2Has.f k xs n = some (xs.any (fun a => decide (a.f0 = n))) := by
  have := l2Has_l0 xs n hn xs.length 0 k (by omega) hk
  simpa [spec_l2Has.f] using this

/-! ### l3NodeOk -/
/-- No name empty, none twice. -/
def attrsOk (xs : List Attr) : Bool := decide ((∀ a ∈ xs, a.f0 ≠ ⟨#[]⟩) ∧ (xs.map (·.f0)).Nodup)
/-- A node by itself. -/
def nodeOk (n : Node) (first : Bool) : Bool :=
  if n.f0 < 0 ∨ n.f0 > 1000000 ∨ ((n.f1 == 1) != first) = true then false
  else if n.f1 = 1 then decide (n.f2 = ⟨#[]⟩) && decide (n.f4 = ⟨#[]⟩) && decide (n.f3.length = 0)
  else if n.f1 = 2 then decide (n.f2 ≠ ⟨#[]⟩) && decide (n.f4 = ⟨#[]⟩) && attrsOk n.f3
  else if n.f1 = 3 then decide (n.f2 = ⟨#[]⟩) && decide (n.f4 ≠ ⟨#[]⟩) && decide (n.f3.length = 0) && decide (n.f5 = 0)
  else if n.f1 = 4 then decide (n.f2 = ⟨#[]⟩) && decide (n.f3.length = 0) && decide (n.f5 = 0)
  else if n.f1 = 5 then decide (n.f4 = ⟨#[]⟩) && decide (n.f3.length = 0) && decide (n.f5 = 0)
  else false

theorem attrs_from (xs : List Attr) : ∀ (d i : Nat), i + d = xs.length → (∀ a ∈ xs.take i, a.f0 ≠ ⟨#[]⟩) → ((xs.take i).map (·.f0)).Nodup →
    (attrsOk xs = true ↔ ∀ j, i ≤ j → ∀ h : j < xs.length, xs[j].f0 ≠ ⟨#[]⟩ ∧ ∀ a ∈ xs.take j, a.f0 ≠ xs[j].f0) := by
  intro d
  induction d with
  | zero =>
    intro i h h1 h2
    rw [List.take_of_length_le (by omega)] at h1 h2
    simp only [attrsOk, decide_eq_true_eq]
    exact ⟨fun _ j hj hlt => by omega, fun _ => ⟨h1, h2⟩⟩
  | succ d ih =>
    intro i h h1 h2
    have hi : i < xs.length := by omega
    by_cases hc : xs[i].f0 ≠ ⟨#[]⟩ ∧ ∀ a ∈ xs.take i, a.f0 ≠ xs[i].f0
    · rw [ih (i + 1) (by omega)]
      · constructor
        · intro hh j hj hlt
          rcases Nat.eq_or_lt_of_le hj with e | e
          · subst e; exact hc
          · exact hh j e hlt
        · intro hh j hj hlt
          exact hh j (by omega) hlt
      · intro a ha
        rw [List.take_succ_eq_append_getElem hi, List.mem_append] at ha
        rcases ha with ha | ha
        · exact h1 a ha
        · rw [List.mem_singleton.1 ha]; exact hc.1
      · rw [List.take_succ_eq_append_getElem hi, List.map_append, List.nodup_append]
        refine ⟨h2, by simp, ?_⟩
        intro x hx y hy
        obtain ⟨a, ha, rfl⟩ := List.mem_map.1 hx
        rw [show y = xs[i].f0 from by simpa using hy]
        exact hc.2 a ha
    · constructor
      · intro hok
        exfalso
        apply hc
        simp only [attrsOk, decide_eq_true_eq] at hok
        refine ⟨hok.1 _ (List.getElem_mem hi), fun a ha he => ?_⟩
        have hnd := hok.2
        rw [← List.take_append_drop i xs, List.map_append, List.nodup_append] at hnd
        refine hnd.2.2 a.f0 (List.mem_map.2 ⟨a, ha, rfl⟩) xs[i].f0 (List.mem_map.2 ⟨xs[i], ?_, rfl⟩) he
        rw [List.drop_eq_getElem_cons hi]
        exact List.mem_cons_self
      · intro hh
        exact absurd (hh i (Nat.le_refl _) hi) hc

theorem attrsOk_all {xs : List Attr} (h1 : ∀ a ∈ xs, a.f0 ≠ ⟨#[]⟩) (h2 : (xs.map (·.f0)).Nodup) : attrsOk xs = true := decide_eq_true ⟨h1, h2⟩
theorem attrsOk_false {xs : List Attr} {i : Nat} (hi : i < xs.length) (h : xs[i].f0 = ⟨#[]⟩ ∨ ∃ a ∈ xs.take i, a.f0 = xs[i].f0) : attrsOk xs = false := by
  rw [← Bool.not_eq_true]
  intro hok
  have hh := (attrs_from xs xs.length 0 (by omega) (by simp) (by simp)).1 hok i (by omega) hi
  rcases h with h | ⟨a, ha, he⟩
  · exact hh.1 h
  · exact hh.2 a ha he
theorem nodeOk_l0 (x1 x2 x6 : Int) (nm tx : ByteArray) (xs : List Attr) (hn : xs.length < 2 ^ 62) : ∀ (d i k : Nat), i + d = xs.length → d + xs.length + 1 < k →
    (∀ a ∈ xs.take i, a.f0 ≠ ⟨#[]⟩) → ((xs.take i).map (·.f0)).Nodup →
    spec_l3NodeOk.l0 k i x1 x2 nm xs tx x6 = some (attrsOk xs && (decide (nm ≠ ⟨#[]⟩) && decide (tx = ⟨#[]⟩))) := by
  intro d
  induction d with
  | zero =>
    intro i k h hk h1 h2
    obtain ⟨k, rfl⟩ : ∃ m, k = m + 1 := ⟨k - 1, by omega⟩
    rw [List.take_of_length_le (by omega)] at h1 h2
    simp only [spec_l3NodeOk.l0]
    rw [if_neg (by omega), attrsOk_all h1 h2]
    by_cases e : nm = ⟨#[]⟩
    · rw [if_pos (bytes_nil.2 e)]; simp [e]
    · rw [if_neg (fun h => e (bytes_nil.1 h))]
      have : (tx.toList == []) = decide (tx = ⟨#[]⟩) := by
        rw [Bool.eq_iff_iff]; simp [bytes_nil]
      simp [e, this]
  | succ d ih =>
    intro i k h hk h1 h2
    obtain ⟨k, rfl⟩ : ∃ m, k = m + 1 := ⟨k - 1, by omega⟩
    simp only [spec_l3NodeOk.l0]
    have hi : i < xs.length := by omega
    rw [if_pos (by omega), if_pos (by omega)]
    have hr : rd_T92 xs (i : Int) = xs[i] := by simp [rd_T92, hi]
    rw [hr]
    by_cases e : xs[i].f0 = ⟨#[]⟩
    · rw [if_pos (bytes_nil.2 e), attrsOk_false hi (.inl e)]; rfl
    · rw [if_neg (fun h => e (bytes_nil.1 h)), if_pos (by omega)]
      simp only [Int.toNat_natCast]
      rw [l2Has_f _ _ (by simp only [List.length_take]; omega) k (by simp only [List.length_take]; omega)]
      simp only [Option.bind_some]
      by_cases e2 : ∃ a ∈ xs.take i, a.f0 = xs[i].f0
      · rw [if_pos (by simpa using e2), attrsOk_false hi (.inr e2)]; rfl
      · rw [if_neg (by simpa using e2), w64 (by omega) (by omega), show ((i : Int) + 1) = ((i + 1 : Nat) : Int) from by omega]
        refine ih (i + 1) k (by omega) (by omega) ?_ ?_
        · intro a ha
          rw [List.take_succ_eq_append_getElem hi, List.mem_append] at ha
          rcases ha with ha | ha
          · exact h1 a ha
          · rw [List.mem_singleton.1 ha]; exact e
        · rw [List.take_succ_eq_append_getElem hi, List.map_append, List.nodup_append]
          refine ⟨h2, by simp, ?_⟩
          intro x hx y hy
          obtain ⟨a, ha, rfl⟩ := List.mem_map.1 hx
          rw [show y = xs[i].f0 from by simpa using hy]
          exact fun he => e2 ⟨a, ha, he⟩
theorem dec_bytes (a : ByteArray) : (a.toList == []) = decide (a = ⟨#[]⟩) := by
  rw [Bool.eq_iff_iff]; simp [bytes_nil]
theorem nodeOk_f (n : Node) (first : Bool) (hn : n.f3.length < 2 ^ 62) (k : Nat) (hk : 2 * n.f3.length + 3 < k) :
    spec_l3NodeOk.f k n.f0 n.f1 n.f2 n.f3 n.f4 n.f5 first = some (nodeOk n first) := by
  obtain ⟨k, rfl⟩ : ∃ m, k = m + 1 := ⟨k - 1, by omega⟩
  have hl0 := nodeOk_l0 n.f0 n.f1 n.f5 n.f2 n.f4 n.f3 hn n.f3.length 0 k (by omega) (by omega) (by simp) (by simp)
  simp only [spec_l3NodeOk.f, spec_l3NodeOk.j0]
  unfold nodeOk
  by_cases h0 : n.f0 < 0
  · simp [h0]
  by_cases h1 : n.f0 > 1000000
  · simp [h0, h1]
  rw [if_neg h0, if_neg h1]
  by_cases h2 : ((n.f1 == 1) != first) = true
  · simp [h2]
  have h3 : ¬ (n.f0 < 0 ∨ n.f0 > 1000000 ∨ ((n.f1 == 1) != first) = true) := by
    rintro (h | h | h)
    · exact h0 h
    · exact h1 h
    · exact h2 h
  rw [if_neg h2, if_neg h3]
  by_cases k1 : n.f1 = 1
  · rw [if_pos k1, if_pos k1]
    by_cases a1 : n.f2 = ⟨#[]⟩ <;> by_cases a2 : n.f4 = ⟨#[]⟩ <;> simp [a1, a2, bytes_nil]
    rw [Bool.eq_iff_iff]; simp
  rw [if_neg k1, if_neg k1]
  by_cases k2 : n.f1 = 2
  · rw [if_pos k2, if_pos k2]
    rw [show ((0 : Nat) : Int) = 0 from rfl] at hl0
    rw [hl0, Bool.and_comm]
  rw [if_neg k2, if_neg k2]
  by_cases k3 : n.f1 = 3
  · rw [if_pos k3, if_pos k3]
    by_cases a1 : n.f2 = ⟨#[]⟩ <;> by_cases a2 : n.f4 = ⟨#[]⟩ <;> by_cases a3 : n.f3.length = 0 <;> simp_all [bytes_nil]
    rw [Bool.eq_iff_iff]; simp
  rw [if_neg k3, if_neg k3]
  by_cases k4 : n.f1 = 4
  · rw [if_pos k4, if_pos k4]
    by_cases a1 : n.f2 = ⟨#[]⟩ <;> by_cases a3 : n.f3.length = 0 <;> simp_all [bytes_nil]
    rw [Bool.eq_iff_iff]; simp
  rw [if_neg k4, if_neg k4]
  by_cases k5 : n.f1 = 5
  · rw [if_pos k5, if_pos k5]
    by_cases a1 : n.f4 = ⟨#[]⟩ <;> by_cases a3 : n.f3.length = 0 <;> simp_all [bytes_nil]
    rw [Bool.eq_iff_iff]; simp
  rw [if_neg k5, if_neg k5]
end Go.Proofs.Ytcjaakbmabhmdaa.FireSpec
