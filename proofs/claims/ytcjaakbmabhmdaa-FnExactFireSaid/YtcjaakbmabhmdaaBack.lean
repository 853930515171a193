/- slices.Backward over ints: the iterator's contract. -/
import Derived.RangeFuncNested
import Derived.RangeFuncBound
import Derived.RangeFuncCalls
import Derived.RangeFuncLeaves
import Derived.Shelf.Abstract
import Derived.Shelf.RegionOpen
import Derived.WalkKit
import Derived.OwnWalkIn
import Derived.TacticsInMore
import Derived.LoopNIn
import Derived.LoopIn
import Derived.Test.YtcjaakbmabhmdaaGarden
namespace Go.Proofs.Ytcjaakbmabhmdaa.Impl
open Go.RowKit Go.Shelf
set_option linter.unusedVariables false
set_option linter.unusedSimpArgs false
attribute [local go_sem] Oper.semAt_some

/-- What has come while m are left: the last, .., number m. -/
def backs (zs : List Int) (m : Nat) : List (Nat × Int) := (List.range (zs.length - m)).map (fun j => (zs.length - 1 - j, zs[zs.length - 1 - j]?.getD 0))
theorem backs_next (zs : List Int) {m : Nat} (h : m < zs.length) : backs zs m = backs zs (m + 1) ++ [(m, zs[m]?.getD 0)] := by
  unfold backs
  rw [show zs.length - m = (zs.length - (m + 1)) + 1 by omega, List.range_succ, List.map_append]
  simp only [List.map_cons, List.map_nil]
  rw [show zs.length - 1 - (zs.length - (m + 1)) = m by omega]
theorem backs_none (zs : List Int) : backs zs zs.length = [] := by simp [backs]
theorem backs_snd (zs : List Int) : (backs zs 0).map Prod.snd = zs.reverse := by
  apply List.ext_getElem
  · simp [backs]
  · intro i h1 h2
    simp only [backs, List.length_map, List.length_range, List.length_reverse] at h1 h2
    simp only [backs, List.getElem_map, List.getElem_range, List.getElem_reverse]
    rw [List.getElem?_eq_getElem (by omega), Option.getD_some]
theorem backs_length (zs : List Int) (m : Nat) : (backs zs m).length = zs.length - m := by simp [backs]
/-- What a round keeps: the slice's block and the box that holds the slice. -/
def KeepsTwo (b bx : Nat) (W W' : World) : Prop := W'.heap[b]? = W.heap[b]? ∧ W'.heap[bx]? = W.heap[bx]?
theorem KeepsTwo.trans {b bx : Nat} {A B C : World} (h : KeepsTwo b bx A B) (h2 : KeepsTwo b bx B C) : KeepsTwo b bx A C := ⟨h2.1.trans h.1, h2.2.trans h.2⟩
theorem cell_same {W W' : World} {b j : Nat} (h : W'.heap[b]? = W.heap[b]?) : W'.cell? ⟨b, j, none⟩ = W.cell? ⟨b, j, none⟩ := by
  simp only [World.cell?]
  rw [h]
set_option maxRecDepth 100000 in
set_option maxHeartbeats 2000000 in
theorem back1_in (F : Fence) (n : Nat) (hf : F.fn 42) (hro : F.round = none) (hn : 1 ≤ n) (l bx b c : Nat) (A : Option Addr) (zs : List Int) (hA : zs ≠ [] → A = some ⟨b, 0, none⟩) (hreach : zs.length ≤ 1000000) (J Jx : List (Nat × Int) → World → Prop)
    (hY : ∀ pre x W, J pre W → pre.length < zs.length → YieldAt F (n - 1) Try.prog l #[.int .i64 (x.1 : Int), .int .i64 x.2] W fun e W' =>
      (e = .returned (.bool true) ∧ J (pre ++ [x]) W' ∧ KeepsTwo b bx W W') ∨ (e = .returned (.bool false) ∧ Jx (pre ++ [x]) W'))
    (W : World) (hbx : W.cell? ⟨bx, 0, none⟩ = some (.slice A zs.length c)) (hc : ∀ j, j < zs.length → W.cell? ⟨b, j, none⟩ = some (.int .i64 (zs[j]?.getD 0))) (h0 : J [] W) :
    CallsIn F n Try.prog 42 #[.func (.yield l) #[] #[], .pointer (some ⟨bx, 0, none⟩)] W fun e W' => (∃ v, e = .returned v) ∧
      ((∃ ys, ys = backs zs 0 ∧ J ys W') ∨ (∃ pre, (∃ m, m ≤ zs.length ∧ pre = backs zs m) ∧ Jx pre W')) := by
  refine callsIn_of_wp Try.func42 rfl hf ?_ hro
  simp only [Try.ntmps42, List.size_toArray, List.length_cons, List.length_nil, Nat.reduceAdd, Nat.reduceSub, Array.replicate_succ, Array.replicate_zero, List.push_toArray, List.append_toArray, List.nil_append, List.cons_append]
  have hw1 : IntKind.i64.wrap ((zs.length : Int) - 1) = (zs.length : Int) - 1 := IntWalk.i64_in _ (by omega)
  gi_wp2
  clear hw1
  gi_loopw [3] (fun i wr => ∃ (m : Nat) (v : Int), m ≤ zs.length ∧ i = .int .i64 v ∧ v = (m : Int) - 1 ∧ J (backs zs m) wr ∧ KeepsTwo b bx W wr)
    (fun i _ => (intOf i + 1).toNat)
  case atStart => exact ⟨zs.length, _, Nat.le_refl _, rfl, rfl, by rw [backs_none]; exact h0, rfl, rfl⟩
  case round =>
    obtain ⟨m, v, hm, rfl, hv, hJs, hK⟩ := hrel
    have hbx' := (cell_same (j := 0) hK.2).trans hbx
    cases m with
    | zero =>
      obtain rfl : v = -1 := by omega
      clear hv
      gi_wp2
      go_end0
      exact ⟨⟨_, rfl⟩, .inl ⟨_, rfl, hJs⟩⟩
    | succ m =>
      obtain rfl : v = (m : Int) := by omega
      clear hv
      obtain ⟨fn, tmps, assign, body, hy, hR⟩ := hY _ (m, zs[m]?.getD 0) wr hJs (by rw [backs_length]; omega)
      dsimp only at hy
      have hcx := (cell_same (j := m) hK.1).trans (hc m (by omega))
      have hlt : (m : Int) < zs.length := by omega
      obtain rfl : A = some ⟨b, 0, none⟩ := hA (by intro e; subst e; simp at hm)
      gi_wp2
      refine hR.mono ?_
      rintro e W3 (⟨rfl, hJ3, hk3⟩ | ⟨rfl, hJx3⟩)
      · gi_wp2
        go_roundw
        case rel => exact ⟨m, _, by omega, rfl, rfl, by rw [backs_next zs (by omega)]; exact hJ3, hK.trans hk3⟩
        case measure => simp [intOf]
      · gi_wp2
        refine bodyPost_ret (results_none rfl _ _ _) rfl ?_
        exact ⟨⟨_, rfl⟩, .inr ⟨_, ⟨m, by omega, (backs_next zs (by omega)).symm⟩, hJx3⟩⟩
theorem back_stops (F : Fence) (n : Nat) (hf : F.fn 42) (hro : F.round = none) (hn : 1 ≤ n) (bx b c : Nat) (A : Option Addr) (zs : List Int) (hA : zs ≠ [] → A = some ⟨b, 0, none⟩) (hreach : zs.length ≤ 1000000) (w : World)
    (hbx : w.cell? ⟨bx, 0, none⟩ = some (.slice A zs.length c)) (hc : ∀ j, j < zs.length → w.cell? ⟨b, j, none⟩ = some (.int .i64 (zs[j]?.getD 0))) :
    SeqStopsK F n Try.prog 42 #[.pointer (some ⟨bx, 0, none⟩)] (fun x : Nat × Int => #[Value.int .i64 (x.1 : Int), Value.int .i64 x.2]) (KeepsTwo b bx) (fun ys => ys = backs zs 0)
      (fun pre => ∃ m, m ≤ zs.length ∧ pre = backs zs m) zs.length w := fun l J Jx W hW _ _ hY h0 =>
  back1_in F n hf hro hn l bx b c A zs hA hreach J Jx hY W ((hW.cell (World.block_lt_of_cell? w _ hbx)).trans hbx) (fun j hj => (hW.cell (World.block_lt_of_cell? w _ (hc j hj))).trans (hc j hj)) h0
end Go.Proofs.Ytcjaakbmabhmdaa.Impl
