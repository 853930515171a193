/- Rows of whole numbers that the call made; what Fire answers. -/
import Derived.Test.YtcjaakbmabhmdaaMapLib
import Derived.Test.YtcjaakbmabhmdaaFireEnd
namespace Go.Proofs.Ytcjaakbmabhmdaa.Impl
open Go.RowKit Go.Proofs.YtcjaakbmabhmdaaW.PrintWords Go.Proofs.YtcjaakbmabhmdaaW.PrintLast Go.Proofs.YtcjaakbmabhmdaaW.PrintMore Go.Proofs.Ytcjaakbmabhmdaa.PFnExactFire Go.Proofs.Ytcjaakbmabhmdaa.MapLib Go.Proofs.Ytcjaakbmabhmdaa.FireSpec Go.Proofs.Ytcjaakbmabhmdaa.Tr
set_option linter.unusedVariables false
set_option linter.unusedSimpArgs false

abbrev IntRow (w : World) (base : Nat) (v : Value) (l : List Int) : Prop := Kd.R (Kd.int .i64) 3 w base (fun _ => True) v l
theorem introw_ne {w : World} {base : Nat} {v : Value} {l : List Int} (hr : IntRow w base v l) {g t : Nat} {cs : Array Value} (hg : w.heap[g]? = some (.cells cs t (0, 0))) (ht : t ≠ 3) : some g ≠ v.ownBlock := by
  intro e
  obtain ⟨inner, ho⟩ := Kd.R_own hr
  obtain ⟨cells, hc⟩ := own_typed ho g e.symm
  rw [hg] at hc
  injection hc with hc
  injection hc with _ hc
  exact ht hc
theorem introw_base {w : World} {base : Nat} {v : Value} {l : List Int} (hr : IntRow w base v l) (k : Nat) (hk : v.ownBlock = some k) : base ≤ k ∧ k < w.heap.size := by
  obtain ⟨inner, ho⟩ := Kd.R_own hr
  exact ⟨own_base ho k hk, own_lt ho k hk⟩
theorem introw_keep {w w1 : World} {base : Nat} {v : Value} {l : List Int} (h : IntRow w base v l) (hm : ∀ k, v.ownBlock = some k → w1.heap[k]? = w.heap[k]?) : IntRow w1 base v l := by
  have h2 := Kd.R_tight rfl h
  exact Kd.R_mono (Kd.R_move h2 (fun k hk => hm k hk.symm)) (fun _ _ => trivial)
/-- The path while it is made. -/
structure PathAt (w w7 wr : World) (pb : Nat) (v : Value) (l : List Int) : Prop where
  row : IntRow wr w.heap.size v l
  kept : Kept w7 wr (fun k => k = pb)
  moved : v.ownBlock = some pb ∨ ∃ k, v.ownBlock = some k ∧ w7.heap.size ≤ k
  below : Below w.heap.size w wr
theorem PathAt.next {w w7 wr w8 : World} {pb : Nat} {v v8 : Value} {l : List Int} {x : Int} (h : PathAt w w7 wr pb v l) (r8 : IntRow w8 w.heap.size v8 (l ++ [x])) (g8 : wr.grownBy w8 v.ownBlock)
    (m8 : v8.ownBlock = v.ownBlock ∨ ∃ k, v8.ownBlock = some k ∧ wr.heap.size ≤ k) : PathAt w w7 w8 pb v8 (l ++ [x]) := by
  have hsz := h.kept.1
  refine ⟨r8, Kept.of_grown g8 h.kept (fun k hk => ?_), ?_, h.below.grown g8 h.below.size (fun k hk => (introw_base h.row k hk).1)⟩
  · rcases h.moved with e | ⟨k', e, hk'⟩
    · rw [e] at hk; injection hk with hk; exact .inl hk.symm
    · rw [e] at hk; injection hk with hk; exact .inr (by omega)
  · rcases m8 with e | ⟨k, e, hk⟩
    · rw [e]; exact h.moved
    · exact .inr ⟨k, e, by omega⟩
theorem PathAt.alloc {w w7 wr : World} {pb : Nat} {v : Value} {l : List Int} (h : PathAt w w7 wr pb v l) (o : Obj) : PathAt w w7 (wr.alloc o) pb v l :=
  ⟨Kd.R_below h.row ((Below.refl _ wr).alloc (Nat.le_refl _) o), h.kept.alloc o, h.moved, h.below.alloc h.below.size o⟩
def FireEnds (ns : List S52) (id : Int) (kind : ByteArray) (hs : List S53) (w : World) (e : Ending) (w' : World) : Prop :=
  ∃ r v, e = .returned v ∧ Fired ns id kind hs r ∧ IntRow w' w.heap.size v r ∧ Below w.heap.size w w'
theorem sloop_ids : ∀ (xs : List Nd) (f : Bool) (seen : List Int) (left : List Nat), sloop f seen left xs = true → seen.Nodup → (seen ++ xs.map (·.id)).Nodup
  | [], _, seen, _, _, h => by simpa using h
  | x :: xs, f, seen, left, h, hs => by
    unfold sloop at h
    split at h
    · cases h
    · rename_i hc
      simp only [Bool.or_eq_true, not_or, Bool.not_eq_true, List.contains_eq_mem, decide_eq_false_iff_not] at hc
      have := sloop_ids xs _ _ _ h (List.nodup_append.2 ⟨hs, by simp, fun a ha b hb => by simp at hb; subst hb; intro e; subst e; exact hc.2 ha⟩)
      simpa using this
theorem treeOk_nodup {ns : List S52} (h : treeOk ns = true) : (ns.map (·.f0)).Nodup := by
  unfold treeOk at h
  rw [Bool.and_eq_true] at h
  have := sloop_ids _ _ _ _ h.2 List.nodup_nil
  simpa [nds, Function.comp_def] using this
theorem place_none {ns : List S52} {id : Int} (h : place ns id = none) : id ∉ ns.map (·.f0) := by
  unfold place at h
  rw [List.findIdx?_eq_none_iff] at h
  intro hm
  obtain ⟨n, hn, e⟩ := List.mem_map.1 hm
  have := h n hn
  simp [e] at this
theorem place_some {ns : List S52} {id : Int} {j : Nat} (h : place ns id = some j) : j < ns.length ∧ (ns.getD j z52).f0 = id := by
  unfold place at h
  obtain ⟨hj, h1, _⟩ := List.findIdx?_eq_some_iff_getElem.1 h
  exact ⟨hj, by simpa [List.getD_eq_getElem?_getD, hj] using h1⟩
end Go.Proofs.Ytcjaakbmabhmdaa.Impl
