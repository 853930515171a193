/- What holds between two stops of the way. -/
import Derived.Test.YtcjaakbmabhmdaaStep
import Derived.Test.YtcjaakbmabhmdaaBack
namespace Go.Proofs.Ytcjaakbmabhmdaa.Impl
open Go.RowKit Go.Shelf Go.Proofs.YtcjaakbmabhmdaaW.PrintWords Go.Proofs.YtcjaakbmabhmdaaW.PrintLast Go.Proofs.YtcjaakbmabhmdaaW.PrintMore Go.Proofs.Ytcjaakbmabhmdaa.PFnExactFire Go.Proofs.Ytcjaakbmabhmdaa.MapLib Go.Proofs.Ytcjaakbmabhmdaa.FireSpec Go.Proofs.Ytcjaakbmabhmdaa.Tr
set_option linter.unusedVariables false
set_option linter.unusedSimpArgs false

/-- The stops one behind the other, as the program keeps them. -/
def runL (hs : List Hand) (fs : List (Hand → Bool)) (s : List Int × Bool) : List Int × Bool :=
  fs.foldl (fun s f => (s.1 ++ (stepL f hs 0 s.2 false).1, (stepL f hs 0 s.2 false).2)) s
theorem runL_stopped (hs : List Hand) : ∀ (fs : List (Hand → Bool)) (o : List Int), runL hs fs (o, true) = (o, true)
  | [], o => rfl
  | f :: fs, o => by
    show runL hs fs (o ++ (stepL f hs 0 true false).1, (stepL f hs 0 true false).2) = _
    rw [stepL_true]
    simpa using runL_stopped hs fs o
theorem runL_run (hs : List Hand) : ∀ (fs : List (Hand → Bool)) (o : List Int), (runL hs fs (o, false)).1 = o ++ runR hs fs
  | [], o => by simp [runL, runR]
  | f :: fs, o => by
    show (runL hs fs (o ++ (stepL f hs 0 false false).1, (stepL f hs 0 false false).2)).1 = _
    rw [stepL_false]
    unfold runR
    rcases h : (stepR f hs 0 false).2 with _ | _
    · rw [runL_run hs fs]
      simp
    · rw [runL_stopped]
      simp
theorem runL_snoc (hs : List Hand) (fs : List (Hand → Bool)) (f : Hand → Bool) (s : List Int × Bool) : runL hs (fs ++ [f]) s = ((runL hs fs s).1 ++ (stepL f hs 0 (runL hs fs s).2 false).1, (stepL f hs 0 (runL hs fs s).2 false).2) := by
  unfold runL
  rw [List.foldl_append]
  rfl
theorem stepL_length (f : Hand → Bool) : ∀ (hs : List Hand) (i : Int) (s e : Bool), (stepL f hs i s e).1.length ≤ hs.length
  | [], i, s, e => by simp [stepL]
  | h :: hs, i, s, e => by
    unfold stepL
    split
    · exact Nat.le_succ_of_le (stepL_length f hs _ _ _)
    · simpa using stepL_length f hs (i + 1) (h.f3 == 2) (e || h.f3 == 1)
theorem runL_length (hs : List Hand) : ∀ (fs : List (Hand → Bool)) (s : List Int × Bool), (runL hs fs s).1.length ≤ s.1.length + fs.length * hs.length
  | [], s => by simp [runL]
  | f :: fs, s => by
    have h1 := runL_length hs fs (s.1 ++ (stepL f hs 0 s.2 false).1, (stepL f hs 0 s.2 false).2)
    have h2 := stepL_length f hs 0 s.2 false
    show (runL hs fs _).1.length ≤ _
    simp only [List.length_append, List.length_cons] at h1 ⊢
    rw [Nat.succ_mul]
    omega
section
variable {w0 w wc w1 : World} {base fb : Nat} {A : Option Addr} {c : Nat} {hs : List S53} {kind : ByteArray} {ov0 ov ov1 : Value} {out out1 : List Int} {stop stop1 : Bool}
/-- One stop more. -/
theorem StepAt.chain (h : StepAt w0 w wc base fb A c hs kind ov0 ov out stop) (h1 : StepAt w0 wc w1 base fb A c hs kind ov ov1 out1 stop1) : StepAt w0 w w1 base fb A c hs kind ov0 ov1 out1 stop1 := by
  have hsz := h.kept.1
  refine ⟨h1.blk, h1.row, h1.below, h.kept.then_ h1.kept (fun k hk => ?_), ?_⟩
  · rcases hk with e | e
    · exact .inl (.inl e)
    · rcases h.moved with e' | ⟨k', e', hk'⟩
      · rw [e'] at e; exact .inl (.inr e)
      · rw [e'] at e; injection e with e; exact .inr (by omega)
  · rcases h1.moved with e | ⟨k, e, hk⟩
    · rw [e]; exact h.moved
    · exact .inr ⟨k, e, by omega⟩
theorem StepAt.start (h : StepAt w0 w wc base fb A c hs kind ov0 ov out stop) : StepAt w0 wc wc base fb A c hs kind ov ov out stop :=
  ⟨h.blk, h.row, h.below, Kept.refl _ _, .inl rfl⟩
/-- What is no cells may turn. -/
theorem StepAt.turn (h : StepAt w0 w wc base fb A c hs kind ov0 ov out stop) {row : Option Nat} (hg : wc.grownBy w1 row) (hr : ∀ r, row = some r → w.heap.size ≤ r ∧ ∃ o : Obj, wc.heap[r]? = some o ∧ o.isCells = false) (hb : w0.heap.size ≤ w.heap.size) : StepAt w0 w w1 base fb A c hs kind ov0 ov out stop := by
  have hne : ∀ (k t : Nat) (cs : Array Value), wc.heap[k]? = some (.cells cs t (0, 0)) → some k ≠ row := fun k t cs hk e => by
    obtain ⟨_, o, ho, hc⟩ := hr k e.symm
    rw [hk] at ho
    injection ho with ho
    subst ho
    cases hc
  refine ⟨(hg.block fb (blk_lt h.blk) (hne _ _ _ h.blk)).trans h.blk, introw_keep h.row (fun k hk => ?_), h.below.grown hg h.below.size (fun k hk => by have := (hr k hk).1; omega), Kept.of_grown hg h.kept (fun k hk => .inr (hr k hk).1), h.moved⟩
  obtain ⟨inner, ho⟩ := Kd.R_own h.row
  obtain ⟨cells, hcl⟩ := own_typed ho k hk
  exact hg.block k (blk_lt hcl) (hne _ _ _ hcl)
/-- A step keeps whatever is no cells. -/
theorem StepAt.others (h1 : StepAt w0 wc w1 base fb A c hs kind ov ov1 out1 stop1) (hb : ∃ cs, wc.heap[fb]? = some (.cells cs 64 (0, 0))) (hr : IntRow wc base ov out) : KeepsOthers wc w1 := by
  refine ⟨h1.kept.1, fun k o hk ho => (h1.kept.2 k (blk_lt hk) ?_).trans hk⟩
  rintro (e | e)
  · obtain ⟨cs, hb⟩ := hb
    subst e
    rw [hb] at hk
    injection hk with hk
    subst hk
    cases ho
  · obtain ⟨inner, hown⟩ := Kd.R_own hr
    obtain ⟨cells, hcl⟩ := own_typed hown k e
    rw [hcl] at hk
    injection hk with hk
    subst hk
    cases ho
end
end Go.Proofs.Ytcjaakbmabhmdaa.Impl
