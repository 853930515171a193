/- What an argument's reading says of its cells, kind by kind: from the form's reading (DataW.trod) to a kind's own word (Kd.K), with what holds of each value read. -/
import Derived.Test.YtcjaakbmabhmdaaVWords
import Derived.Test.YtcjaakbmabhmdaaVMore
import Derived.ProofKit
import Derived.Deep.Slices
namespace Go.Proofs.Ytcjaakbmabhmdaa.Fits
open Go.RowKit Go.Proofs.YtcjaakbmabhmdaaW.PrintWords
set_option linter.unusedVariables false

section
variable {H : Type} (enc : TypeId × Value → H) (P : Program) (w : World) (spare : Nat → Bool) (held : Bool)

/-- Whatever reads as type t is of kind d, with ok of it. -/
def FitsK {α : Type} (d : Kd α) (ok : α → Prop) (t : TypeId) : Prop :=
  d.sz = P.cellsOf t ∧ ∀ fuel cs x, DataW.trod enc P w 0 spare held fuel t cs = some x → ∃ y, d.K w y cs ∧ ok y
/-- The same of a struct's fields from cell o on. -/
def FitsF {α : Type} (d : Kd α) (ok : α → Prop) (fs : List Field) (o : Nat) : Prop :=
  ∀ (n : Nat) (cs : List Value), (∀ f, f ∈ fs → ∃ x, DataW.trod enc P w 0 spare held n f.type ((cs.drop f.offset).take (P.cellsOf f.type)) = some x) → ∃ y, d.K w y ((cs.drop o).take d.sz) ∧ ok y
variable {enc P w spare held}

theorem fits_int {t : TypeId} {k : IntKind} (h : P.underlying t = some (.int k)) (hc : P.cellsOf t = 1) : FitsK enc P w spare held (Kd.int k) (fun n => (Lit.int k n).wf = true) t :=
  ⟨hc.symm, fun _ _ _ hx => let ⟨n, hcs, _, hw⟩ := DataW.trod_int h hx; ⟨n, hcs, hw⟩⟩
theorem fits_bool {t : TypeId} (h : P.underlying t = some .bool) (hc : P.cellsOf t = 1) : FitsK enc P w spare held Kd.bool (fun _ => True) t :=
  ⟨hc.symm, fun _ _ _ hx => let ⟨n, hcs, _⟩ := DataW.trod_bool h hx; ⟨n, hcs, trivial⟩⟩
theorem fits_string {t : TypeId} (h : P.underlying t = some .string) (hc : P.cellsOf t = 1) : FitsK enc P w spare held Kd.string (fun s => s.size ≤ maxLen) t :=
  ⟨hc.symm, fun _ _ _ hx => let ⟨n, hcs, _, hw⟩ := DataW.trod_string h hx; ⟨n, hcs, hw⟩⟩

theorem cells_at {w : World} {a : Addr} {n : Nat} {cs : List Value} (h : w.cells? 0 a n = some cs) : cs.length = n ∧ ∀ i u, cs[i]? = some u → w.cell? (a.add i) = some u := by
  obtain ⟨_, hl, hc⟩ := World.cells?_some h
  refine ⟨hl, fun i u hu => ?_⟩
  have hi : i < n := by
    rcases Nat.lt_or_ge i cs.length with hi | hi
    · omega
    · rw [List.getElem?_eq_none hi] at hu; cases hu
  rw [hc i hi, hu]

theorem fits_slice {α : Type} {d : Kd α} {ok : α → Prop} {t e : TypeId} (h : P.underlying t = some (.slice e)) (hc : P.cellsOf t = 1) (hd : FitsK enc P w spare held d ok e) :
    FitsK enc P w spare held (Kd.slice e d) (fun xs => xs.length ≤ maxLen ∧ ∀ x, x ∈ xs → ok x) t := by
  refine ⟨hc.symm, fun fuel cs x hx => ?_⟩
  rcases Go.Deep.open_slice h hx with ⟨rfl, _⟩ | ⟨a, len, cap, m, n, D, Pl, rfl, _, hl, hm, hme, _, hel⟩
  · exact ⟨[], ⟨none, 0, rfl, Nat.le_refl _, by simp, by simp, fun h0 => absurd h0 (by simp)⟩, by simp [maxLen], by simp⟩
  · have hle : len ≤ m := by rw [hme]; split <;> omega
    have key : ∀ i, i < len → ∃ y c, c.length = d.sz ∧ d.K w y c ∧ ok y ∧ ∀ j u, c[j]? = some u → w.cell? (a.add (i * d.sz + j)) = some u := by
      intro i hi
      obtain ⟨cs', h1, h2⟩ := hel i (by omega)
      obtain ⟨y, hy, hok⟩ := hd.2 _ _ _ h2
      obtain ⟨hl1, hcell⟩ := cells_at h1
      refine ⟨y, cs', by rw [hl1, hd.1], hy, hok, fun j u hu => ?_⟩
      have := hcell j u hu
      rwa [Go.Deep.add_add, ← hd.1] at this
    have hex : ∃ ys : List α, ys.length = len ∧ ∀ i y, ys[i]? = some y → ∃ c, c.length = d.sz ∧ d.K w y c ∧ ok y ∧ ∀ j u, c[j]? = some u → w.cell? (a.add (i * d.sz + j)) = some u := by
      clear hel hle hme hm hl hx
      revert key
      generalize len = len
      intro key
      induction len with
      | zero => exact ⟨[], rfl, by simp⟩
      | succ len ih =>
        obtain ⟨ys, hyl, hys⟩ := ih (fun i hi => key i (by omega))
        obtain ⟨y, hy⟩ := key len (by omega)
        refine ⟨ys ++ [y], by simp [hyl], fun i z hz => ?_⟩
        rcases Nat.lt_or_ge i len with hi | hi
        · rw [List.getElem?_append_left (by omega)] at hz
          exact hys i z hz
        · rw [List.getElem?_append_right (by omega)] at hz
          have : i - ys.length = 0 := by
            rcases Nat.eq_zero_or_pos (i - ys.length) with h0 | h0
            · exact h0
            · rw [List.getElem?_eq_none (by simp; omega)] at hz; cases hz
          rw [this] at hz
          simp at hz
          subst hz
          have : i = len := by omega
          subst this
          exact hy
    obtain ⟨ys, hyl, hys⟩ := hex
    refine ⟨ys, ⟨some a, cap, by rw [hyl], by omega, ?_⟩, by simp only [maxLen] at *; omega, ?_⟩
    · refine ⟨rfl, by simp only [maxLen] at *; omega, fun _ => ⟨a, rfl, fun j p hj => ?_⟩⟩
      obtain ⟨c, h1, h2, _, h4⟩ := hys j p hj
      exact ⟨c, h1, h2, h4⟩
    · intro z hz
      obtain ⟨i, hi⟩ := List.mem_iff_getElem?.1 hz
      obtain ⟨_, _, _, h3, _⟩ := hys i z hi
      exact h3

theorem fitsF_one {α : Type} {d : Kd α} {ok : α → Prop} {f : Field} {o : Nat} (hd : FitsK enc P w spare held d ok f.type) (ho : f.offset = o) : FitsF enc P w spare held d ok [f] o := by
  intro n cs h
  obtain ⟨x, hx⟩ := h f (by simp)
  rw [ho, ← hd.1] at hx
  exact hd.2 _ _ _ hx

theorem fitsF_cons {α β : Type} {d0 : Kd α} {d1 : Kd β} {ok0 : α → Prop} {ok1 : β → Prop} {f : Field} {fs : List Field} {o : Nat} (hd : FitsK enc P w spare held d0 ok0 f.type) (ho : f.offset = o)
    (h1 : FitsF enc P w spare held d1 ok1 fs (o + d0.sz)) : FitsF enc P w spare held (Kd.pair d0 d1) (fun y => ok0 y.1 ∧ ok1 y.2) (f :: fs) o := by
  intro n cs h
  obtain ⟨x, hx⟩ := h f (by simp)
  rw [ho, ← hd.1] at hx
  obtain ⟨y0, hy0, hk0⟩ := hd.2 _ _ _ hx
  obtain ⟨y1, hy1, hk1⟩ := h1 n cs (fun g hg => h g (by simp [hg]))
  refine ⟨(y0, y1), ⟨_, _, ?_, hy0, hy1⟩, hk0, hk1⟩
  show (cs.drop o).take (d0.sz + d1.sz) = _
  rw [List.take_add, List.drop_drop]

theorem fits_struct {α β : Type} {d : Kd α} {ok : α → Prop} {ok' : β → Prop} {f : β → α} {t : TypeId} {fs : Array Field} (h : P.underlying t = some (.struct fs)) (hd : FitsF enc P w spare held d ok fs.toList 0) (hc : d.sz = P.cellsOf t)
    (hf : ∀ y, ok y → ∃ x, f x = y ∧ ok' x) : FitsK enc P w spare held (Kd.iso d f) ok' t := by
  refine ⟨hc, fun fuel cs x hx => ?_⟩
  obtain ⟨xs, n, _, _, hl, hxs, hel⟩ := DataW.trod_struct h hx
  obtain ⟨y, hy, hk⟩ := hd n cs (fun g hg => by
    obtain ⟨i, hi⟩ := List.mem_iff_getElem?.1 hg
    have hi' : fs[i]? = some g := by simpa using hi
    have h2 := hel i g hi'
    have hlt : i < xs.length := by rw [hxs]; exact (Array.getElem?_eq_some_iff.1 hi').1
    exact ⟨xs[i], by rw [h2, List.getElem?_eq_getElem hlt]⟩)
  obtain ⟨z, rfl, hz⟩ := hf y hk
  refine ⟨z, ?_, hz⟩
  show d.K w (f z) cs
  have : (cs.drop 0).take d.sz = cs := by rw [List.drop_zero, hc, ← hl, List.take_length]
  rwa [this] at hy
end
end Go.Proofs.Ytcjaakbmabhmdaa.Fits
