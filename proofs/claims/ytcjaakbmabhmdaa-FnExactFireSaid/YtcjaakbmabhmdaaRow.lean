/- For every input 'laws.FnExactFire' returns true, and what came in reads as it read before: no condition. -/
import Derived.Test.YtcjaakbmabhmdaaRows
import Derived.Test.YtcjaakbmabhmdaaLaw
import Derived.Test.YtcjaakbmabhmdaaFits
import Derived.WalkKit
import Derived.ProofKit
import Derived.OpenShut
import Derived.ShutString
import Derived.ChangeOld
import Derived.Below
import Derived.SizedLaws
namespace Go.Proofs.Ytcjaakbmabhmdaa.RowFire
open Go.ChangeShapes Go.WideShapes Go.ChangeAt Go.RowKit Go.Proofs.YtcjaakbmabhmdaaW.PrintWords Go.Proofs.YtcjaakbmabhmdaaW.PrintLast Go.Proofs.YtcjaakbmabhmdaaW.PrintMore Go.Proofs.Ytcjaakbmabhmdaa.PFnExactFire Go.Proofs.Ytcjaakbmabhmdaa.FireSpec Go.Proofs.Ytcjaakbmabhmdaa.Impl Go.Proofs.Ytcjaakbmabhmdaa.Fits
open Go.ChangeMaps (open_string shut_string)
set_option linter.unusedVariables false
section
variable {H : Type} {enc : TypeId × Value → H} {w : World} {spare : Nat → Bool} {held : Bool}
def nodeIn (x : S80) : Prop := nodeFit x ∧ x.f5 ≤ 9223372036854775807
theorem fits_attr : FitsK enc Try.prog w spare held k101 attrFit 101 :=
  fits_struct Try.underlying101 (fitsF_cons (fits_string Try.underlying9 (by kernel_rfl)) rfl (fitsF_one (fits_string Try.underlying9 (by kernel_rfl)) rfl)) (by kernel_rfl) (fun y hy => ⟨⟨y.1, y.2⟩, rfl, hy.1, hy.2⟩)
theorem fits_node : FitsK enc Try.prog w spare held k80 nodeIn 80 :=
  fits_struct Try.underlying80 (fitsF_cons (fits_int Try.underlying3 (by kernel_rfl)) rfl (fitsF_cons (fits_int Try.underlying3 (by kernel_rfl)) rfl (fitsF_cons (fits_string Try.underlying9 (by kernel_rfl)) rfl (fitsF_cons (fits_slice Try.underlying78 (by kernel_rfl) fits_attr) rfl (fitsF_cons (fits_string Try.underlying9 (by kernel_rfl)) rfl (fitsF_one (fits_int Try.underlying3 (by kernel_rfl)) rfl)))))) (by kernel_rfl)
    (fun y hy => ⟨⟨y.1, y.2.1, y.2.2.1, y.2.2.2.1, y.2.2.2.2.1, y.2.2.2.2.2⟩, rfl, ⟨hy.2.2.1, hy.2.2.2.2.1, hy.2.2.2.1.1, hy.2.2.2.1.2⟩, (bounds_i64 hy.2.2.2.2.2).2⟩)
theorem fits_nodes : FitsK enc Try.prog w spare held (Kd.slice 80 k80) (fun xs => xs.length ≤ maxLen ∧ ∀ x, x ∈ xs → nodeIn x) 22 := fits_slice Try.underlying22 (by kernel_rfl) fits_node
theorem fits_tree : FitsK enc Try.prog w spare held (Kd.iso (Kd.slice 80 k80) (fun x : List S80 => x)) (fun xs => xs.length ≤ maxLen ∧ ∀ x, x ∈ xs → nodeIn x) 24 :=
  fits_struct Try.underlying24 (fitsF_one fits_nodes rfl) (by kernel_rfl) (fun y hy => ⟨y, rfl, hy⟩)
theorem fits_hand : FitsK enc Try.prog w spare held k46 handFit 46 :=
  fits_struct Try.underlying46 (fitsF_cons (fits_int Try.underlying3 (by kernel_rfl)) rfl (fitsF_cons (fits_string Try.underlying9 (by kernel_rfl)) rfl (fitsF_cons (fits_bool Try.underlying4 (by kernel_rfl)) rfl (fitsF_one (fits_int Try.underlying3 (by kernel_rfl)) rfl)))) (by kernel_rfl) (fun y hy => ⟨⟨y.1, y.2.1, y.2.2.1, y.2.2.2⟩, rfl, hy.2.1⟩)
theorem fits_hands : FitsK enc Try.prog w spare held (Kd.slice 46 k46) (fun xs => xs.length ≤ maxLen ∧ ∀ x, x ∈ xs → handFit x) 25 := fits_slice Try.underlying25 (by kernel_rfl) fits_hand
end
theorem own : ownKnob Try.prog.godebug = none := by kernel_rfl
theorem laidOut : laidOutB Try.prog = true := by kernel_rfl
set_option maxRecDepth 100000 in
theorem lifted (os : Os) (started : os.Started) (H : Type) (enc : TypeId × Value → H) :
    ReturnsInHanded {} Try.checked os 3 .any (Rows.fnExactFireSpec.pre6 enc Try.prog Try.f3 Rows.fnExactFireRow.domain false) (Rows.fnExactFireSpec.post enc Try.prog Try.f3 false true false false) := by
  refine returnsInHanded_of_change_sized (C := Try.checked) own started (by kernel_rfl) Try.func3
    (ChangeSpec.witness6 (enc := enc) (C := Try.checked) false ⟨#[], #[.agg #[.slice none 0 0], .int .i64 0, .string ByteArray.empty, .slice none 0 0], []⟩ 8 (by kernel_rfl) (by kernel_rfl) (by kernel_rfl) (by kernel_rfl)) ?_
  intro W base args ds gs before hval0 hW hcnd hsz0 _
  have hval : ∀ (j : Nat) t v, Try.f3.params[j]? = some t → args[j]? = some v → Value.okWide Try.prog W .any base t v := hval0
  have hW' := hW
  obtain ⟨p, q, hA0, hV, rfl, hfz, hnd⟩ := hW
  have hA : DataW.TrodAll enc Try.prog W 0 (fun _ => true) true Try.f3.params.toList args.toList ds p := hA0
  rw [Try.params3] at hA hval
  obtain ⟨v0, vs0, d0, ds0, p0, q0, hargs, rfl, rfl, h0, r0⟩ := trodAll_cons hA
  obtain ⟨v1, vs1, d1, ds1, p1, q1, rfl, rfl, rfl, h1, r1⟩ := trodAll_cons r0
  obtain ⟨v2, vs2, d2, ds2, p2, q2, rfl, rfl, rfl, h2, r2⟩ := trodAll_cons r1
  obtain ⟨v3, vs3, d3, ds3, p3, q3, rfl, rfl, rfl, h3, r3⟩ := trodAll_cons r2
  obtain ⟨rfl, rfl, rfl⟩ := trodAll_nil r3
  obtain rfl : args = #[v0, v1, v2, v3] := by cases args; simp_all
  obtain ⟨rfl, rfl⟩ := trodVars_none hV
  obtain ⟨cs0, rfl, _⟩ := okWide_struct Try.underlying24 (hval 0 24 v0 rfl rfl)
  have k0 := h0
  have lt0 : ∀ x ∈ p0, x.block < W.heap.size := by obtain ⟨m, hm⟩ := k0; exact DataW.trod_lt m _ _ _ hm
  obtain ⟨a1, rfl, rfl, rfl, w1⟩ := open_int Try.underlying3 (hval 1 3 v1 rfl rfl) h1
  obtain ⟨a2, rfl, rfl, rfl, y2⟩ := open_string Try.underlying9 (hval 2 9 v2 rfl rfl) h2
  obtain ⟨a3, len3, cap3, rfl⟩ := okWide_slice Try.underlying25 (hval 3 25 v3 rfl rfl)
  have k3 := h3
  have lt3 : ∀ x ∈ p3, x.block < W.heap.size := by obtain ⟨m, hm⟩ := k3; exact DataW.trod_lt m _ _ _ hm
  obtain ⟨f0, hf0⟩ := h0
  obtain ⟨xs, hK0, hx0, hx1⟩ := fits_tree.2 _ _ _ hf0
  obtain ⟨A, c, e0, hc, hC⟩ := hK0
  obtain ⟨f3, hf3⟩ := h3
  obtain ⟨hs, hK3, hh0, hh1⟩ := fits_hands.2 _ _ _ hf3
  obtain ⟨Ah, ch, e3, hch, hCh⟩ := hK3
  simp [Value.cells] at e0 e3
  obtain rfl : cs0 = #[.slice A xs.length c] := by
    first
      | exact e0
      | (apply Array.ext'; simpa using e0)
  obtain ⟨rfl, rfl, rfl⟩ := e3
  clear hA0 hval0 hsz0
  refine (law_calls A c xs a1 a2 a3 cap3 hs W hC hc (fun x hx => (hx1 x hx).1) (fun x hx => (hx1 x hx).2) (by unfold maxLen at hx0; omega) hCh hch hh1 (by unfold maxLen at hh0; omega)).mono fun e W' ⟨he, bel⟩ => ?_
  subst he
  exact ⟨_, rfl, _, _, _, [], _, [], hW', trodAll_mk1 (shut_bool Try.underlying4 _), (trodAll_cons_mk (Below.trod laidOut (by kernel_rfl) (of_decide_eq_true (by kernel_rfl)) k0 bel lt0) (trodAll_cons_mk (shut_int Try.underlying3 w1) (trodAll_cons_mk (shut_string Try.underlying9 y2) (trodAll_cons_mk (Below.trod laidOut (by kernel_rfl) (of_decide_eq_true (by kernel_rfl)) k3 bel lt3) trodAll_mk0)))), rfl, bel.frame _, fun h => by cases h⟩
theorem over : Rows.fnExactFireRow.holds Try.pinned (OpenSpec.ofChange Rows.fnExactFireSpec) :=
  OpenClaim.holds_of_wide 3 Try.f3 rfl rfl rfl rfl rfl rfl rfl ⟨rfl, rfl, rfl, rfl, rfl⟩ rfl rfl rfl rfl rfl (by kernel_rfl) Try.func3 (by kernel_rfl)
    (of_decide_eq_true (by kernel_rfl)) (by unfold Func.isWrapper; first | (rw [if_pos (by decide +kernel)]; kernel_rfl) | (rw [if_neg (by decide +kernel)]; exact ⟨rfl, rfl⟩))
    (fun os started H enc _ => lifted os started H enc)
theorem proved : Rows.FnExactFireSaid := over
#print axioms proved
end Go.Proofs.Ytcjaakbmabhmdaa.RowFire
namespace Go.Proofs.Ytcjaakbmabhmdaa
/-- The row, under a short name, for the claim. -/
theorem fnExactFire_holds : Rows.FnExactFireSaid := RowFire.proved
end Go.Proofs.Ytcjaakbmabhmdaa
