/- What the reference's Fire comes to: the way to the page, and the handlers on it. -/
import Derived.Test.YtcjaakbmabhmdaaPkTree
import Derived.Test.YtcjaakbmabhmdaaPkHA
import Derived.Test.YtcjaakbmabhmdaaPkPar
import Derived.Test.YtcjaakbmabhmdaaPkTo2
import Derived.Test.YtcjaakbmabhmdaaPkEqB
import Derived.Test.YtcjaakbmabhmdaaPkMk
import Derived.Test.YtcjaakbmabhmdaaX10
import Derived.Test.YtcjaakbmabhmdaaTr
import Derived.Test.YtcjaakbmabhmdaaFireSpec
import Derived.Test.YtcjaakbmabhmdaaFireTree
import Derived.Test.YtcjaakbmabhmdaaFireRun
set_option linter.unusedVariables false
namespace Go.Proofs.Ytcjaakbmabhmdaa.FireSpec
open Go.RowKit Go.Proofs.YtcjaakbmabhmdaaW.PrintWords Go.Proofs.Ytcjaakbmabhmdaa.PFnExactFire Go.Proofs.Ytcjaakbmabhmdaa.Tr

/-- L: the nodes around j, from the nearest on. -/
inductive Anc (ks : List Nat) : Nat → List Nat → Prop
  | root : Anc ks 0 []
  | kid {P i j : Nat} {L : List Nat} : Kid ks P i j → Anc ks P L → Anc ks j (P :: L)
theorem Anc.unique {ks : List Nat} {j : Nat} {L : List Nat} (h : Anc ks j L) : ∀ {L' : List Nat}, Anc ks j L' → L = L' := by
  induction h with
  | root =>
    intro L' h'
    cases h' with
    | root => rfl
    | kid hk _ => have := hk.lt; omega
  | kid hk _ ih =>
    intro L' h'
    cases h' with
    | root => have := hk.lt; omega
    | kid hk' ha' =>
      obtain ⟨rfl, _⟩ := hk.unique hk'
      rw [ih ha']
theorem anc_exists {ks : List Nat} {res : List Int} {n : Nat} (h : ParsFrom ks res 0 n) : ∀ j, j < n → ∃ L, Anc ks j L ∧ L.length ≤ j := by
  intro j
  induction j using Nat.strongRecOn with
  | _ j ih =>
    intro hj
    rcases Nat.eq_zero_or_pos j with e | e
    · subst e; exact ⟨[], .root, Nat.le_refl _⟩
    · obtain ⟨P, i, hK, _⟩ := (h j (Nat.zero_le _) hj).2 e
      obtain ⟨L, hL, hl⟩ := ih P hK.lt (by have := hK.lt; omega)
      exact ⟨P :: L, .kid hK hL, by have := hK.lt; simp; omega⟩
theorem Anc.lt {ks : List Nat} {j : Nat} {L : List Nat} (h : Anc ks j L) : ∀ P ∈ L, P < j := by
  induction h with
  | root => simp
  | kid hk _ ih =>
    intro Q hQ
    rcases List.mem_cons.1 hQ with e | hQ
    · rw [e]; exact hk.lt
    · have := ih Q hQ; have := hk.lt; omega
theorem Anc.length {ks : List Nat} {j : Nat} {L : List Nat} (h : Anc ks j L) : L.length ≤ j := by
  induction h with
  | root => simp
  | kid hk _ ih => have := hk.lt; simp; omega

/-! ### the handlers -/
/-- One stop on the way: which handlers are called from number i on, and whether the event ends there. -/
def stepR (fits : Hand → Bool) : List Hand → Int → Bool → List Int × Bool
  | [], _, stop => ([], stop)
  | h :: hs, i, stop => if fits h then (if h.f3 = 2 then ([i], true) else ((i :: (stepR fits hs (i + 1) (stop || h.f3 == 1)).1), (stepR fits hs (i + 1) (stop || h.f3 == 1)).2)) else stepR fits hs (i + 1) stop
def runR (hs : List Hand) : List (Hand → Bool) → List Int
  | [] => []
  | f :: fs => (stepR f hs 0 false).1 ++ (if (stepR f hs 0 false).2 then [] else runR hs fs)
def fitsAt (a : Int) (kind : ByteArray) (mode : Hand → Bool) (h : Hand) : Bool := decide (h.f0 = a) && decide (h.f1 = kind) && mode h
def stages (up : List Int) (id : Int) (kind : ByteArray) : List (Hand → Bool) :=
  up.reverse.map (fun a => fitsAt a kind (·.f2)) ++ fitsAt id kind (fun _ => true) :: up.map (fun a => fitsAt a kind (fun h => !h.f2))
def pathOf (up : List Int) (id : Int) : List Int := up.reverse ++ [id] ++ up
def modeAt (n i : Nat) (h : Hand) : Bool := (if i < n then h.f2 else if n < i then !h.f2 else true)
theorem stages_length (up : List Int) (id : Int) (kind : ByteArray) : (stages up id kind).length = (pathOf up id).length := by simp [stages, pathOf]
theorem stages_at (up : List Int) (id : Int) (kind : ByteArray) (i : Nat) (hi : i < (pathOf up id).length) :
    (stages up id kind)[i]? = some (fun h => fitsAt ((pathOf up id)[i]) kind (modeAt up.length i) h) := by
  unfold stages pathOf modeAt at *
  simp only [List.length_append, List.length_reverse, List.length_singleton] at hi
  rcases Nat.lt_trichotomy i up.length with h | h | h
  · rw [List.getElem?_append_left (by simpa using h)]
    simp only [h, if_true]
    rw [List.getElem_append_left (by simp; omega), List.getElem_append_left (by simpa using h)]
    simp [h]
  · subst h
    rw [List.getElem?_append_right (by simp)]
    simp
  · rw [List.getElem?_append_right (by simp; omega)]
    simp only [List.length_map, List.length_reverse]
    obtain ⟨m, hm⟩ : ∃ m, i - up.length = m + 1 := ⟨i - up.length - 1, by omega⟩
    rw [hm, List.getElem?_cons_succ, List.getElem?_map, List.getElem?_eq_getElem (by omega)]
    have h1 : ¬ i < up.length := by omega
    simp only [h1, h, if_true, if_false, Option.map_some]
    congr 1
    funext x
    rw [List.getElem_append_right (by simp; omega)]
    simp only [List.length_append, List.length_reverse, List.length_singleton]
    congr 2
    omega
def idsOf (ns : List Node) (L : List Nat) : List Int := L.map (fun P => (ns.getD P z52).f0)
/-- The answer of Fire. -/
def Fired (ns : List Node) (id : Int) (kind : ByteArray) (hs : List Hand) (r : List Int) : Prop :=
  if treeOk ns = true ∧ handsOk hs = true then
    match place ns id with
    | none => r = []
    | some j => ∃ L, Anc (kids ns) j L ∧ r = runR hs (stages (idsOf ns L) id kind)
  else r = []
theorem treeOk_parts {ns : List Node} (h : treeOk ns = true) : 1 ≤ ns.length ∧ ns.length ≤ 4000 ∧ (∀ n ∈ ns, 0 ≤ n.f5) ∧ E (kids ns) 0 1 = some ns.length ∧ (∀ n ∈ ns, n.f5 ≤ ns.length) := by
  unfold treeOk at h
  rw [Bool.and_eq_true, decide_eq_true_eq] at h
  obtain ⟨⟨h1, h2, h3, h4⟩, _⟩ := h
  refine ⟨h1, h2, h3, by unfold E; exact h4, fun n hn => ?_⟩
  have key : ∀ (l : List Node) (m p e : Nat), fin (kids l) m p = some e → e = p + l.length → ∀ n ∈ l, kid n ≤ l.length := by
    intro l
    induction l with
    | nil => intro m p e h he n hn; simp at hn
    | cons a l ih =>
      intro m p e h he n hn
      cases m with
      | zero => rw [fin_zero] at h; injection h with h; simp at he; omega
      | succ m =>
        simp only [kids, List.map_cons, fin] at h
        have hb := fin_bounds _ _ _ _ h
        simp only [List.length_map, List.length_cons] at hb he ⊢
        rcases List.mem_cons.1 hn with e1 | hn
        · rw [e1]; omega
        · have := ih _ _ _ h (by omega) n hn; omega
  have := key ns 1 0 ns.length h4 (by omega) n hn
  have := h3 n hn
  unfold kid at *
  omega
end Go.Proofs.Ytcjaakbmabhmdaa.FireSpec
