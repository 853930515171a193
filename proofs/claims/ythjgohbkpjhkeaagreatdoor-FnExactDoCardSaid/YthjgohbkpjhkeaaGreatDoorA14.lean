/- Part 14 of the proof: DoInsT, DoGive, DoTrees. -/
import Derived.Test.YthjgohbkpjhkeaaGreatDoorA1
import Derived.Test.YthjgohbkpjhkeaaGreatDoorA13
import Derived.Deep.RegionLaw
import Derived.Deep.LoopGhost
import Derived.Lib.Walk
import Derived.Lib.Overlaps
import Derived.Laws.Externs
import Derived.Laws.NewBlocks
import Derived.Maps.AppendAt
import Derived.Test.YthjgohbkpjhkeaaGreatDoorA6
import Derived.Test.YthjgohbkpjhkeaaGreatDoorA9
set_option linter.unusedVariables false
set_option linter.unusedSimpArgs false
set_option maxHeartbeats 4000000
set_option maxRecDepth 100000
namespace Go.Proofs.YthjgohbkpjhkeaaGreatDoor.Sl
open Go.RowKit Go.Lib Go.Proofs.YthjgohbkpjhkeaaGreatDoorW.PrintWords Go.Proofs.YthjgohbkpjhkeaaGreatDoorW.PrintLast Go.Proofs.YthjgohbkpjhkeaaGreatDoorW.PrintMore Go.Proofs.YthjgohbkpjhkeaaGreatDoor.PFnExactDo Go.Proofs.YthjgohbkpjhkeaaGreatDoor.Impl
theorem infoIT : (Tryz.prog.info? 97).map (fun i => (i.zero, i.size, i.bytes)) = some (some (.pointer none), 1, 8) := by kernel_rfl
theorem insT_end (w : World) (base : Nat) (v : Value) (n vb : Nat) (inner cs : List Value) (ho : w.ownsRow base 97 1 v n inner) (hv : w.heap[vb]? = some (.cells cs.toArray 97 (0, 0))) (hcl : cs.length = 1) (h1 : ∀ u ∈ cs, u.oneCell' = true) (hb : base ≤ w.heap.size) (hn : n ≤ 1000000000) :
  Calls Tryz.prog 154 #[v, .int .i64 n, .slice (some ⟨vb, 0, none⟩) 1 1] w fun e w' => ∃ v', e = .returned v' ∧ w'.ownsRow base 97 1 v' (n + 1) (inner ++ cs) ∧ w.grownBy w' v.ownBlock ∧ (v'.ownBlock = v.ownBlock ∨ v'.ownBlock = some w.heap.size) := by
 obtain ⟨i0, hi, hz0, hz1, hz2⟩ := info_parts infoIT
 have HO := am ho
 obtain ⟨A, c, rfl, hnc⟩ : ∃ A c, v = .slice A n c ∧ n ≤ c := by
  rcases ho.2 with ⟨h, h0⟩ | ⟨g, cap, cur, h, _, _, h0, _⟩
  ·exact ⟨none, 0, by rw [h, h0], by omega⟩
  ·exact ⟨_, _, h, h0⟩
 have hcm : c ≤ 9223372036854775807 := by
  rcases ho.2 with ⟨h, h0⟩ | ⟨g, cap, cur, h, _, _, _, h0, _⟩
  ·injection h with _ _ h; omega
  ·injection h with _ _ h; subst h; unfold maxLen at h0; exact h0
 have hut := Tryz.underlying96
 have hnn : (n : Int) ≤ c := by omega
 clear ho
 go_enter Tryz.func154, Tryz.ntmps154
 go_wp2_with (first | (at_builtin; refine wpList_append_own_at _ (by rfl) (.tmp 23) (.tmp 24) 96 (by rfl) base 97 i0 (.pointer none) 1 8 Tryz.underlying96 hi hz0 hz1 hz2 (by rfl) (by decide) _ n inner (by rfl) HO.out ⟨vb, 0, none⟩ 1 1 cs (by rfl) (by simpa using hcl) (fun j u hj => by rw [add_at, Nat.zero_add, blk_cell hv]; simpa using hj) h1 (by unfold maxLen; omega) (by omega) hb ?_; intro v1 w1 k1 k2 k3 k4; have K := am (And.intro k1 (And.intro k2 k4)); clear k1 k2 k3 k4))
 all_goals (go_ret; first | exact ⟨_, rfl, K.out.1, K.out.2.1, K.out.2.2⟩ | ((have h : c = n := by assumption); subst h; exact ⟨_, rfl, K.out.1, K.out.2.1, K.out.2.2⟩))
theorem insT_shift (w : World) (base : Nat) (g n c i vb : Nat) (inner cs : List Value) (ho : w.ownsRow base 97 1 (.slice (some ⟨g, 0, none⟩) n c) n inner) (hv : w.heap[vb]? = some (.cells cs.toArray 97 (0, 0))) (hcl : cs.length = 1) (h1 : ∀ u ∈ cs, u.oneCell' = true) (h1i : ∀ u ∈ inner, u.oneCell' = true) (hi : i < n) (hroom : n + 1 ≤ c) (hne : vb ≠ g) :
  Calls Tryz.prog 154 #[.slice (some ⟨g, 0, none⟩) n c, .int .i64 i, .slice (some ⟨vb, 0, none⟩) 1 1] w fun e w' => e = .returned (.slice (some ⟨g, 0, none⟩) (n + 1) c) ∧ w'.ownsRow base 97 1 (.slice (some ⟨g, 0, none⟩) (n + 1) c) (n + 1) (splice i 1 inner cs) ∧ Kept w w' (fun k => k = g) ∧ (∀ B, B ≤ g → B ≤ w.heap.size → Below B w w') := by
 obtain ⟨i0, hi0, hz0, hz1, hz2⟩ := info_parts infoIT
 obtain ⟨cur, hbg, hh, hcm, hcs, hct⟩ : ∃ cur, base ≤ g ∧ w.heap[g]? = some (.cells cur 97 (0, 0)) ∧ c ≤ maxLen ∧ cur.size = c * 1 ∧ cur.toList.take (n * 1) = inner := by
  rcases ho.2 with ⟨h, h0⟩ | ⟨g', cap, cur, h, h2, h3, _, h5, h6, h7⟩
  ·cases h
  ·injection h with ha _ hc
   injection ha with ha
   injection ha with ha
   subst ha
   subst hc
   exact ⟨cur, h2, h3, h5, h6, h7⟩
 have hil := ho.1
 unfold maxLen at hcm
 have hsz : (Tryz.prog.info? 97).map (·.size) = some 1 := by rw [hi0]; simp [hz1]
 have hgi : ∀ j, j < n * 1 → cur[j]? = inner[j]? := fun j hj => by
  rw [← hct, List.getElem?_take, if_pos hj, Array.getElem?_toList]
 have hcell : ∀ j, j < c * 1 → (w.cell? ⟨g, j, none⟩).isSome = true := fun j hj => by
  rw [blk_cell hh j, Array.getElem?_eq_getElem (by omega)]; rfl
 have hfz : ∀ j, w.frozen? ⟨g, j, none⟩ = false := fun j => blk_frozen hh j
 have hin : ∀ j v, inner[j]? = some v → w.cell? ⟨g, j, none⟩ = some v := fun j v hj => by
  have hlt : j < inner.length := (List.getElem?_eq_some_iff.1 hj).1
  rw [blk_cell hh j, hgi j (by omega)]; exact hj
 have hvc : ∀ j v, cs[j]? = some v → w.cell? ⟨vb, j, none⟩ = some v := fun j v hj => by rw [blk_cell hv j]; simpa using hj
 have hdl : (inner.drop (i)).length = n * 1 - i * 1 := by rw [List.length_drop, hil]; try omega
 have hov : ∀ lb cb, (callFunc 155 #[.slice (some ⟨vb, 0, none⟩) 1 1, .slice (some ⟨g, i + 1, none⟩) lb cb]).run Tryz.prog w = .ok (.value (.bool false)) w := fun lb cb => by
  rw [run_callFunc_extern Tryz.func155 (by kernel_rfl) (by kernel_rfl) (by kernel_rfl) (e := Extern.SlicesOverlaps.overlaps #[96, 96] #[4]) (by kernel_rfl),
   Lib.run_overlaps_apart w 96 4 97 Tryz.underlying96 1 (fun w => by kernel_rfl) ⟨vb, 0, none⟩ ⟨g, i + 1, none⟩ 1 1 lb cb hne 97 97 1 (c * 1) (shape_of hv (by simp [hcl])) (shape_of hh (by simp [hcs])) (by omega) (blk_frozen hv 0) (blk_frozen hv _)]
  rfl
 have hcp1 : ∀ ty dc sc, (Builtin.copy_ #[96, 96] ty #[.slice (some ⟨g, i + 1, none⟩) (n - i) dc, .slice (some ⟨g, i, none⟩) (n + 1 - i) sc]).run Tryz.prog w.drew = .ok (goInt (Nat.min (n + 1 - i) (n - i))) (w.drew.setCells g (i + 1) (inner.drop (i))) := fun ty dc sc =>
  run_copy_sz w.drew 1 _ _ ty 97 g (i + 1) (n - i) dc ⟨g, i, none⟩ (n + 1 - i) sc (inner.drop (i)) Tryz.underlying96 hsz (by rw [hdl]; simp only [Nat.min_def]; split <;> omega)
   (fun j v hj => by rw [add_at]; rw [List.getElem?_drop] at hj; exact hin _ v (by simpa using hj))
   (fun j hj => hcell _ (by rw [hdl] at hj; omega)) (fun j hj => hfz _) (fun v hv => h1i v (List.mem_of_mem_drop hv))
 obtain ⟨cur1, hh1, hs1, hg1⟩ := setCells_get (g := g) (e := 97) (cs := inner.drop (i)) (o := i + 1) (w := w.drew) hh (by rw [hdl]; omega)
 have hcp2 : ∀ (W : World), W.heap = (w.drew.setCells g (i + 1) (inner.drop (i))).heap → ∀ ty dc, (Builtin.copy_ #[96, 96] ty #[.slice (some ⟨g, i, none⟩) (n + 1 - i) dc, .slice (some ⟨vb, 0, none⟩) 1 1]).run Tryz.prog W = .ok (goInt (Nat.min 1 (n + 1 - i))) (W.setCells g (i) cs) := fun W hW ty dc => by
  have hhW : W.heap[g]? = some (.cells cur1 97 (0, 0)) := by rw [hW]; exact hh1
  have hvW : W.heap[vb]? = some (.cells cs.toArray 97 (0, 0)) := by rw [hW, setCells_far _ _ _ hne]; exact hv
  refine run_copy_sz W 1 _ _ ty 97 g (i) (n + 1 - i) dc ⟨vb, 0, none⟩ 1 1 cs Tryz.underlying96 hsz (by rw [hcl]; simp only [Nat.min_def]; split <;> omega)
   (fun j v hj => by rw [add_at, Nat.zero_add, blk_cell hvW]; simpa using hj)
   (fun j hj => by rw [blk_cell hhW, Array.getElem?_eq_getElem (by omega)]; rfl) (fun j hj => blk_frozen hhW _) h1
 have HE := am (show ∀ W : World, W.heap = ((w.drew.setCells g (i + 1) (inner.drop (i))).setCells g (i) cs).heap → W.ownsRow base 97 1 (.slice (some ⟨g, 0, none⟩) (n + 1) c) (n + 1) (splice i 1 inner cs) from fun W hW => by
  obtain ⟨cur2, hh2, hs2, hg2⟩ := setCells_get (g := g) (e := 97) (cs := cs) (o := i) (w := w.drew.setCells g (i + 1) (inner.drop (i))) hh1 (by omega)
  refine ⟨by unfold splice; rw [List.length_append, List.length_append, List.length_take, List.length_drop, hcl, hil]; omega, .inr ⟨g, c, cur2, rfl, hbg, by rw [hW]; exact hh2, hroom, by unfold maxLen; exact hcm, by omega, ?_⟩⟩
  refine splice_of (Nat.le_of_lt hi) hil hcl (by simp; omega) (fun j hj => ?_) (fun j hj => ?_) (fun j hj => ?_)
  ·rw [Array.getElem?_toList, hg2, if_neg (by omega), hg1, if_neg (by omega)]; exact hgi j (by omega)
  ·rw [Array.getElem?_toList, hg2, if_pos (by omega)]; congr 1; omega
  ·rw [Array.getElem?_toList, hg2, if_neg (by omega), hg1, if_pos (by rw [hdl]; omega), List.getElem?_drop]; congr 1; omega)
 have hK := am (show Kept w ((w.drew.setCells g (i + 1) (inner.drop (i))).setCells g (i) cs) (fun k => k = g) ∧ ∀ B, B ≤ g → B ≤ w.heap.size → Below B w ((w.drew.setCells g (i + 1) (inner.drop (i))).setCells g (i) cs) from
  ⟨(setCells_kept w.drew g (i + 1) (inner.drop (i))).then_ (setCells_kept _ g (i) cs) (fun k hk => .inl hk), fun B h1 h2 => (((Below.refl B w).drew).trans (setCells_below w.drew g (i + 1) _ B h1 h2)).trans (setCells_below _ g (i) cs B h1 (by rw [(setCells_same g _ _ _).2.2.2]; exact h2))⟩)
 have hut := Tryz.underlying96
 have hz2' : ¬ ((i : Int) = (n : Int)) := by omega
 have hr1 : ¬ ((c : Int) < (n : Int) + 1) := by omega
 have hr2 : n + 1 ≤ c := hroom
 have hi1 : (i : Int) ≤ n := by omega
 have hi2 : (i : Int) ≤ (n : Int) + 1 := by omega
 have hi3 : (i : Int) + 1 ≤ (n : Int) + 1 := by omega
 have hi4 : (0 : Int) ≤ (i : Int) + 1 := by omega
 have hi5 : (0 : Int) ≤ (n : Int) + 1 := by omega
 have hw1 : IntKind.i64.wrap ((i : Int) + 1) = (i : Int) + 1 := by rw [IntKind.wrap_i64]; omega
 have hw2 : IntKind.i64.wrap ((n : Int) + 1) = (n : Int) + 1 := by rw [IntKind.wrap_i64]; omega
 have ht1 : ((i : Int) + 1).toNat = i + 1 := by omega
 have ht2 : ((n : Int) + 1).toNat = n + 1 := by omega
 have hc1 : ¬ (c = i) := by omega
 have hc2 : ¬ (c = i + 1) := by omega
 have HV := am (And.intro h1 (And.intro h1i hil))
 clear hdl hg1 hs1 hh1 hgi hcell hfz hin hvc hct hcs hh hil ho h1 h1i hv hsz
 go_enter Tryz.func154, Tryz.ntmps154
 go_wp2_with (simp only [hov])
 go_region_law (refine step_copy_runI rfl _ _ 96 96 rfl _ _ (by simp [Act.eval, Act.put]) (by simp [Act.eval, Act.put]) (hcp1 _ _ _) ?_)
 go_wp2_with (at_builtin; refine wpList_copy_runI _ rfl _ _ 96 96 rfl _ _ rfl rfl (hcp2 _ rfl _ _) ?_)
 go_ret
 exact ⟨rfl, HE.out _ rfl, hK.out⟩
theorem insT_grow (w : World) (base : Nat) (g n c i vb : Nat) (inner cs : List Value) (ho : w.ownsRow base 97 1 (.slice (some ⟨g, 0, none⟩) n c) n inner) (hv : w.heap[vb]? = some (.cells cs.toArray 97 (0, 0))) (hcl : cs.length = 1) (h1 : ∀ u ∈ cs, u.oneCell' = true) (h1i : ∀ u ∈ inner, u.oneCell' = true) (hi : i < n) (hroom : c < n + 1) (hb : base ≤ w.heap.size) (hn : n ≤ 1000000000) :
  Calls Tryz.prog 154 #[.slice (some ⟨g, 0, none⟩) n c, .int .i64 i, .slice (some ⟨vb, 0, none⟩) 1 1] w fun e w' => ∃ G, e = .returned (.slice (some ⟨w.heap.size, 0, none⟩) (n + 1) G) ∧ w'.ownsRow base 97 1 (.slice (some ⟨w.heap.size, 0, none⟩) (n + 1) G) (n + 1) (splice i 1 inner cs) ∧ Below w.heap.size w w' := by
 obtain ⟨i0, hi0, hz0, hz1, hz2⟩ := info_parts infoIT
 obtain ⟨cur, hbg, hh, hnc, hcm, hcs, hct⟩ : ∃ cur, base ≤ g ∧ w.heap[g]? = some (.cells cur 97 (0, 0)) ∧ n ≤ c ∧ c ≤ maxLen ∧ cur.size = c * 1 ∧ cur.toList.take (n * 1) = inner := by
  rcases ho.2 with ⟨h, h0⟩ | ⟨g', cap, cur, h, h2, h3, h4, h5, h6, h7⟩
  ·cases h
  ·injection h with ha _ hc
   injection ha with ha
   injection ha with ha
   subst ha
   subst hc
   exact ⟨cur, h2, h3, h4, h5, h6, h7⟩
 have hil := ho.1
 unfold maxLen at hcm
 have hsz : (Tryz.prog.info? 97).map (·.size) = some 1 := by rw [hi0]; simp [hz1]
 have hgl := blk_lt hh
 have hvl := blk_lt hv
 have hgi : ∀ j, j < n * 1 → cur[j]? = inner[j]? := fun j hj => by
  rw [← hct, List.getElem?_take, if_pos hj, Array.getElem?_toList]
 have hin : ∀ j v, inner[j]? = some v → w.cell? ⟨g, j, none⟩ = some v := fun j v hj => by
  have hlt : j < inner.length := (List.getElem?_eq_some_iff.1 hj).1
  rw [blk_cell hh j, hgi j (by omega)]; exact hj
 have hdl : (inner.drop (i)).length = n * 1 - i * 1 := by rw [List.length_drop, hil]; try omega
 have hkk : (n : Int) + 1 - (i : Int) = ((n + 1 - i : Nat) : Int) := by omega
 have hik : i + (n + 1 - i) = n + 1 := by omega
 have hold : (Builtin.firstCells i0.size i (.slice (some ⟨g, 0, none⟩) i c)).run Tryz.prog w.drew = .ok (inner.take (i)).toArray w.drew := by
  rw [hz1]
  exact run_firstCells_some w.drew 1 i ⟨g, 0, none⟩ i c (inner.take (i)) (by rw [List.length_take, hil]; omega) (fun j v hj => by
   rw [add_at, Nat.zero_add]
   rw [List.getElem?_take] at hj
   split at hj
   ·exact hin j v hj
   ·cases hj)
 have hrz : ∀ ty, (Builtin.append_ #[96, 3] ty #[.slice (some ⟨g, 0, none⟩) i c, .int .i64 ((n : Int) + 1 - (i : Int))]).run Tryz.prog w =
   .ok (.slice (some ⟨w.heap.size, 0, none⟩) (n + 1) (grownCap w (n + 1) c 97)) (w.drew.alloc (.cells ((inner.take (i)).toArray ++ Builtin.zeroCells ((.pointer none) : Value).cells (n + 1 - i) ++ Builtin.zeroCells ((.pointer none) : Value).cells (grownCap w (n + 1) c 97 - (n + 1))) 97)) := fun ty => by
  have h := Lib.run_append_grow_zeros w 96 3 ty 97 i0 (.pointer none) .i64 .i64 Tryz.underlying96 Tryz.underlying3 hi0 hz0 (some ⟨g, 0, none⟩) i c (inner.take (i)) hold (n + 1 - i) (by omega) (by rw [hz1]; omega) (by omega) (by omega) (by rw [hz2]; omega) (by rw [hz2, hik]; exact growslice_fits hroom (by omega))
  rw [hik] at h
  rw [hkk]
  exact h
 obtain ⟨G, hG⟩ : ∃ G, G = grownCap w (n + 1) c 97 := ⟨_, rfl⟩
 have hGn : n + 1 ≤ G := by rw [hG]; exact grownCap_ge w _ _ _
 have hG63 : G ≤ 9223372036854775807 := by
  have := grownCap_le_maxLen w (n + 1) c 97 (by unfold maxLen; omega)
  rw [← hG] at this
  unfold maxLen at this
  omega
 obtain ⟨ROW, hROW⟩ : ∃ ROW : Array Value, ROW = (inner.take (i)).toArray ++ Builtin.zeroCells ((.pointer none) : Value).cells (n + 1 - i) ++ Builtin.zeroCells ((.pointer none) : Value).cells (G - (n + 1)) := ⟨_, rfl⟩
 rw [← hG] at hrz
 rw [← hROW] at hrz
 have hRl : ROW.size = G * 1 := by
  rw [hROW]
  simp [Builtin.zeroCells, Value.cells, hil]
  omega
 have hR0 : ∀ j, j < i * 1 → ROW[j]? = inner[j]? := fun j hj => by
  rw [hROW, Array.append_assoc, Array.getElem?_append_left (by simp [hil]; omega)]
  rw [List.getElem?_toArray, List.getElem?_take, if_pos (by omega)]
 have hn1 : (w.drew.alloc (.cells ROW 97)).heap[w.heap.size]? = some (.cells ROW 97 (0, 0)) := MapLib.blk_newest w.drew _
 have hv1 : (w.drew.alloc (.cells ROW 97)).heap[vb]? = some (.cells cs.toArray 97 (0, 0)) := by show (w.heap.push _)[vb]? = _; rw [Array.getElem?_push, if_neg (by omega)]; exact hv
 have hg1 : (w.drew.alloc (.cells ROW 97)).heap[g]? = some (.cells cur 97 (0, 0)) := by show (w.heap.push _)[g]? = _; rw [Array.getElem?_push, if_neg (by omega)]; exact hh
 have hcpA : ∀ (W : World), W.heap = (w.drew.alloc (.cells ROW 97)).heap → ∀ ty dc, (Builtin.copy_ #[96, 96] ty #[.slice (some ⟨w.heap.size, i, none⟩) (n + 1 - i) dc, .slice (some ⟨vb, 0, none⟩) 1 1]).run Tryz.prog W = .ok (goInt (Nat.min 1 (n + 1 - i))) (W.setCells w.heap.size (i) cs) := fun W hW ty dc =>
  run_copy_sz W 1 _ _ ty 97 w.heap.size (i) (n + 1 - i) dc ⟨vb, 0, none⟩ 1 1 cs Tryz.underlying96 hsz (by rw [hcl]; simp only [Nat.min_def]; split <;> omega)
   (fun j v hj => by rw [add_at, Nat.zero_add, blk_cell (by rw [hW]; exact hv1)]; simpa using hj)
   (fun j hj => by rw [blk_cell (by rw [hW]; exact hn1), Array.getElem?_eq_getElem (by omega)]; rfl) (fun j hj => blk_frozen (by rw [hW]; exact hn1) _) h1
 obtain ⟨cur1, hh1, hs1, hc1⟩ := setCells_get (g := w.heap.size) (e := 97) (cs := cs) (o := i) (w := w.drew.alloc (.cells ROW 97)) hn1 (by omega)
 have hg2 : ((w.drew.alloc (.cells ROW 97)).setCells w.heap.size (i) cs).heap[g]? = some (.cells cur 97 (0, 0)) := by rw [setCells_far _ _ _ (by omega)]; exact hg1
 have hcpB : ∀ (W : World), W.heap = ((w.drew.alloc (.cells ROW 97)).setCells w.heap.size (i) cs).heap → ∀ ty dc sc, (Builtin.copy_ #[96, 96] ty #[.slice (some ⟨w.heap.size, i + 1, none⟩) (n - i) dc, .slice (some ⟨g, i, none⟩) (n - i) sc]).run Tryz.prog W = .ok (goInt (Nat.min (n - i) (n - i))) (W.setCells w.heap.size (i + 1) (inner.drop (i))) := fun W hW ty dc sc =>
  run_copy_sz W 1 _ _ ty 97 w.heap.size (i + 1) (n - i) dc ⟨g, i, none⟩ (n - i) sc (inner.drop (i)) Tryz.underlying96 hsz (by rw [hdl]; simp only [Nat.min_def]; split <;> omega)
   (fun j v hj => by
    rw [add_at, blk_cell (by rw [hW]; exact hg2)]
    rw [List.getElem?_drop] at hj
    have hlt := (List.getElem?_eq_some_iff.1 hj).1
    rw [hgi _ (by omega)]
    exact hj)
   (fun j hj => by rw [blk_cell (by rw [hW]; exact hh1), Array.getElem?_eq_getElem (by omega)]; rfl) (fun j hj => blk_frozen (by rw [hW]; exact hh1) _) (fun v hv => h1i v (List.mem_of_mem_drop hv))
 have HE := am (show ∀ W : World, W.heap = (((w.drew.alloc (.cells ROW 97)).setCells w.heap.size (i) cs).drew.setCells w.heap.size (i + 1) (inner.drop (i))).heap → W.ownsRow base 97 1 (.slice (some ⟨w.heap.size, 0, none⟩) (n + 1) G) (n + 1) (splice i 1 inner cs) from fun W hW => by
  obtain ⟨cur2, hh2, hs2, hc2⟩ := setCells_get (g := w.heap.size) (e := 97) (cs := inner.drop (i)) (o := i + 1) (w := ((w.drew.alloc (.cells ROW 97)).setCells w.heap.size (i) cs).drew) hh1 (by rw [hdl]; omega)
  refine ⟨by unfold splice; rw [List.length_append, List.length_append, List.length_take, List.length_drop, hcl, hil]; omega, .inr ⟨w.heap.size, G, cur2, rfl, hb, by rw [hW]; exact hh2, hGn, by unfold maxLen; omega, by omega, ?_⟩⟩
  refine splice_of (Nat.le_of_lt hi) hil hcl (by simp; omega) (fun j hj => ?_) (fun j hj => ?_) (fun j hj => ?_)
  ·rw [Array.getElem?_toList, hc2, if_neg (by omega), hc1, if_neg (by omega)]; exact hR0 j (by omega)
  ·rw [Array.getElem?_toList, hc2, if_neg (by omega), hc1, if_pos (by omega)]; congr 1; omega
  ·rw [Array.getElem?_toList, hc2, if_pos (by rw [hdl]; omega), List.getElem?_drop]; congr 1; omega)
 have hK := am (show Below w.heap.size w (((w.drew.alloc (.cells ROW 97)).setCells w.heap.size (i) cs).drew.setCells w.heap.size (i + 1) (inner.drop (i))) from
  ((((((Below.refl w.heap.size w).drew).alloc (Nat.le_refl _) _).trans (setCells_below _ _ (i) cs _ (Nat.le_refl _) (by simp))).drew).trans (setCells_below _ _ (i + 1) _ _ (Nat.le_refl _) (by show _ ≤ (World.setCells _ _ _ _).heap.size; rw [(setCells_same _ _ _ _).2.2.2]; simp))))
 have hut := Tryz.underlying96
 have hz2' : ¬ ((i : Int) = (n : Int)) := by omega
 have hr1 : (c : Int) < (n : Int) + 1 := by omega
 have hi1 : (i : Int) ≤ n := by omega
 have hi2 : (i : Int) ≤ (n : Int) + 1 := by omega
 have hi3 : (i : Int) + 1 ≤ (n : Int) + 1 := by omega
 have hi4 : (0 : Int) ≤ (i : Int) + 1 := by omega
 have hi5 : (0 : Int) ≤ (n : Int) + 1 := by omega
 have hi6 : (0 : Int) ≤ (n : Int) + 1 - (i : Int) := by omega
 have hi7 : i ≤ c := by omega
 have hw1 : IntKind.i64.wrap ((i : Int) + 1) = (i : Int) + 1 := by rw [IntKind.wrap_i64]; omega
 have hw2 : IntKind.i64.wrap ((n : Int) + 1) = (n : Int) + 1 := by rw [IntKind.wrap_i64]; omega
 have hw3 : IntKind.i64.wrap ((n : Int) + 1 - (i : Int)) = (n : Int) + 1 - (i : Int) := by rw [IntKind.wrap_i64]; omega
 have ht1 : ((i : Int) + 1).toNat = i + 1 := by omega
 have ht2 : ((n : Int) + 1).toNat = n + 1 := by omega
 have hc1' : ¬ (c = i) := by omega
 have hc2' : ¬ (G = i) := by omega
 have hc3' : ¬ (G = i + 1) := by omega
 have HV := am (And.intro h1 (And.intro h1i hil))
 have hE1 : ((w.alloc (.cells ROW 97)).drew).heap = (w.drew.alloc (.cells ROW 97)).heap := rfl
 clear hdl hc1 hs1 hh1 hg2 hg1 hv1 hn1 hgi hin hct hcs hh hil ho h1 h1i hv hsz hold hROW hRl hR0 hkk hik hgl hvl hG hG63
 go_enter Tryz.func154, Tryz.ntmps154
 go_wp2_with (first
  | (at_builtin; refine Lib.wpList_append_run _ rfl _ _ _ _ rfl _ _ rfl rfl _ _ (hrz _) ?_)
  | (at_builtin; refine wpList_copy_runI _ rfl _ _ 96 96 rfl _ _ rfl rfl (hcpA _ rfl _ _) ?_))
 go_region_law (refine step_copy_runI rfl _ _ 96 96 rfl (.slice (some ⟨w.heap.size, i + 1, none⟩) (n - i) (G - (i + 1))) (.slice (some ⟨g, i, none⟩) (n - i) (c - i)) (by simp [Act.eval, Act.put]) (by simp [Act.eval, Act.put]) (hcpB _ ?hW 3 (G - (i + 1)) (c - i)) ?_; (case hW => rfl))
 go_wp2
 go_ret
 exact ⟨_, rfl, HE.out _ rfl, hK.out⟩
theorem insT_calls (w : World) (base : Nat) (v : Value) (xs : List Nat) (i vb : Nat) (p : Nat) (ok : Nat → Prop) (hr : Kd.R ptrK 97 w base ok v xs) (hi : i ≤ xs.length) (hv : w.heap[vb]? = some (.cells #[ptr p] 97 (0, 0))) (hne : v.ownBlock ≠ some vb) (hb : base ≤ w.heap.size) (hn : xs.length ≤ 1000000000) :
  Calls Tryz.prog 154 #[v, .int .i64 i, .slice (some ⟨vb, 0, none⟩) 1 1] w fun e w' => ∃ v', e = .returned v' ∧ Kd.R ptrK 97 w' base (fun _ => True) v' (xs.take i ++ p :: xs.drop i) ∧ Kept w w' (fun k => v.ownBlock = some k) ∧ (∀ B, B ≤ base → Below B w w') ∧ (v'.ownBlock = v.ownBlock ∨ ∃ k, v'.ownBlock = some k ∧ w.heap.size ≤ k) := by
 obtain ⟨hok, inner, ho, hre⟩ := hr
 obtain ⟨cs, hcs⟩ : ∃ cs : List Value, cs = [ptr p] := ⟨_, rfl⟩
 have hv' : w.heap[vb]? = some (.cells cs.toArray 97 (0, 0)) := by rw [hcs]; exact hv
 have hcl : cs.length = 1 := by rw [hcs]; rfl
 have hp : (ptrK).M w base ok p cs := by rw [hcs]; exact rfl
 have h1 : ∀ u ∈ cs, u.oneCell' = true := by rw [hcs]; intro u hu; simp at hu; rcases hu with rfl | rfl <;> rfl
 rcases Nat.lt_or_ge i xs.length with hlt | hge
 ·have h1i := reps_ones hre
  rcases ho.2 with ⟨h, h0⟩ | ⟨g, cap, cur, rfl, hg, hh, hnc, _⟩
  ·omega
  ·have hob : (Value.slice (some (⟨g, 0, none⟩ : Addr)) xs.length cap).ownBlock = some g := by simp [Value.ownBlock]
   have hgv : vb ≠ g := fun e => hne (by rw [hob, e])
   rcases Nat.lt_or_ge cap (xs.length + 1) with hc | hc
   ·refine (insT_grow w base g xs.length cap i vb inner cs ho hv' hcl h1 h1i hlt hc hb hn).mono ?_
    rintro e w' ⟨G, rfl, h2, h3⟩
    exact ⟨_, rfl, splice_R (flat_scalar ptr _) hre hp hi h2, Kept.of_below h3 _, fun B hB => h3.mono (Nat.le_trans hB hb), .inr ⟨w.heap.size, by simp [Value.ownBlock], Nat.le_refl _⟩⟩
   ·refine (insT_shift w base g xs.length cap i vb inner cs ho hv' hcl h1 h1i hlt hc hgv).mono ?_
    rintro e w' ⟨rfl, h2, h3, h4⟩
    exact ⟨_, rfl, splice_R (flat_scalar ptr _) hre hp hi h2, h3.mono (fun k hk => by rw [hob, hk]), fun B hB => h4 B (Nat.le_trans hB hg) (Nat.le_trans hB hb), .inl (by simp [Value.ownBlock])⟩
 ·obtain rfl : i = xs.length := by omega
  refine (insT_end w base v xs.length vb inner cs ho hv' hcl h1 hb hn).mono ?_
  rintro e w' ⟨v', rfl, h2, h3, h4⟩
  rw [← splice_end (n := xs.length) (sz := 1) ho.1] at h2
  refine ⟨v', rfl, splice_R (flat_scalar ptr _) hre hp (Nat.le_refl _) h2, Kept.of_grown h3 (Kept.refl w _) (fun k hk => .inl hk), fun B hB => (Below.refl B w).grown h3 (Nat.le_trans hB hb) (fun k hk => Nat.le_trans hB (own_base ho k hk)), ?_⟩
  rcases h4 with h4 | h4
  ·exact .inl h4
  ·exact .inr ⟨_, h4, Nat.le_refl _⟩
end Go.Proofs.YthjgohbkpjhkeaaGreatDoor.Sl
set_option maxHeartbeats 4000000
set_option maxRecDepth 100000
namespace Go.Proofs.YthjgohbkpjhkeaaGreatDoor.Impl
open Go.RowKit Go.Proofs.YthjgohbkpjhkeaaGreatDoorW.PrintWords Go.Proofs.YthjgohbkpjhkeaaGreatDoorW.PrintLast Go.Proofs.YthjgohbkpjhkeaaGreatDoorW.PrintMore Go.Proofs.YthjgohbkpjhkeaaGreatDoor.PFnExactDo Go.Proofs.YthjgohbkpjhkeaaGreatDoor.MapLib Go.Proofs.YthjgohbkpjhkeaaGreatDoor.FireSpec Go.Proofs.YthjgohbkpjhkeaaGreatDoor.Tr Go.Proofs.YthjgohbkpjhkeaaGreatDoor.Fo
def Ahead (w : World) (bv : Value) (i len : Nat) : Prop := (bv = .pointer none ∧ i = len) ∨ ∃ bb n A c kv up, bv = ptr bb ∧ TwigB w bb n A c kv up (i : Int)
theorem give_calls (w : World) (base b kb i : Nat) (bv : Value) (n : S95) (A : Option Addr) (c : Nat) (kv up : Value) (pl : Int) (bs : List Nat) (hx : TwigB w b n A c kv up pl) (hrow : PtrRow w base kv bs) (hi : i ≤ bs.length) (hbv : Ahead w bv i bs.length)
  (hkids : ∀ k ∈ kb :: bs, ∃ n A c kv up pl, TwigB w k n A c kv up pl) (hd : (kb :: bs).Nodup) (hb : b ∉ kb :: bs) (hn : bs.length < 1000000000) (hbb : base ≤ b) (hkb : ∀ k ∈ kb :: bs, base ≤ k) (hbase : base ≤ w.heap.size) :
  Calls Tryz.prog 149 #[ptr b, ptr kb, bv] w fun e w' => e = .returned (.tuple #[]) ∧ Regr w w' base b n A c kv up pl (bs.take i ++ kb :: bs.drop i) := by
 have huw := Tryz.underlying99
 obtain ⟨Ak, ck, rfl⟩ := Kd.R_slice hrow
 obtain ⟨_, hx6, _, _, hxf⟩ := twig_cells hx
 have hob : ∀ k, (Value.slice Ak bs.length ck).ownBlock = some k → k < w.heap.size := fun k hk => (row_base hrow k hk).2
 have hba : Below w.heap.size w (w.alloc (.cells #[ptr kb] 97)) := (Below.refl _ w).alloc (Nat.le_refl _) _
 have hxa : TwigB (w.alloc (.cells #[ptr kb] 97)) b n A c (.slice Ak bs.length ck) up pl := blk_below hx hba
 have hra : PtrRow (w.alloc (.cells #[ptr kb] 97)) base (.slice Ak bs.length ck) bs := Kd.R_below hrow hba
 have HI := am (Sl.insT_calls (w.alloc (.cells #[ptr kb] 97)) base (.slice Ak bs.length ck) bs i w.heap.size kb (fun _ => True) hra hi (blk_newest w _) (fun e => by have := hob _ e; omega) (by simp; omega) (by omega))
 have hperm : (bs.take i ++ kb :: bs.drop i).Perm (kb :: bs) := by
  have := List.perm_middle (a := kb) (l₁ := bs.take i) (l₂ := bs.drop i)
  rwa [List.take_append_drop] at this
 have hmem : ∀ k, k ∈ bs.take i ++ kb :: bs.drop i ↔ k ∈ kb :: bs := fun k => hperm.mem_iff
 have hlen : (bs.take i ++ kb :: bs.drop i).length = bs.length + 1 := by rw [hperm.length_eq]; rfl
 have HALL := am (show (∀ k ∈ bs.take i ++ kb :: bs.drop i, ∃ n A c kv up pl, TwigB w k n A c kv up pl) ∧ (bs.take i ++ kb :: bs.drop i).Nodup ∧ b ∉ bs.take i ++ kb :: bs.drop i ∧ (bs.take i ++ kb :: bs.drop i).length ≤ 1000000000 ∧ base ≤ b ∧ (∀ k ∈ bs.take i ++ kb :: bs.drop i, base ≤ k) ∧ base ≤ w.heap.size from
  ⟨fun k hk => hkids k ((hmem k).1 hk), hperm.nodup_iff.2 hd, fun h => hb ((hmem b).1 h), by omega, hbb, fun k hk => hkb k ((hmem k).1 hk), hbase⟩)
 have HX := am (And.intro hx (And.intro hxa (And.intro hrow (And.intro hra hba))))
 have hn' : (bs.length : Int) ≤ 1000000000 := by omega
 have hi' : (i : Int) ≤ bs.length := by omega
 have hx6a : ∀ o, (w.alloc o).cell? ⟨b, 6, none⟩ = some (.slice Ak bs.length ck) := fun o => by rw [← hx6]; exact World.cell?_of_block (w := w) (Below.heap_alloc w o b (blk_lt hx))
 unfold ptr at HI
 rcases hbv with ⟨rfl, rfl⟩ | ⟨bb, n1, A1, c1, kv1, up1, rfl, hk1⟩
 ·clear hx hrow hkids hd hb hbb hkb hbase hxa hra hob hba hperm hmem hlen hxf hi
  unfold ptr
  go_enter Tryz.func149, Tryz.ntmps149
  go_wp2_with fail
  refine HI.out.mono ?_
  rintro e w1 ⟨kv', rfl, h1, h2, h3, h4⟩
  have hx1 := (h2.2 b (blk_lt HX.out.2.1) (fun e => row_ne HX.out.2.2.2.1 HX.out.2.1 e)).trans HX.out.2.1
  have hc6 : w1.cell? ⟨b, 6, none⟩ = some (.slice Ak bs.length ck) := blk_cell hx1 6
  have hcf := blk_frozen hx1 6
  have H1 := am (And.intro h1 (And.intro h2 (And.intro h3 h4)))
  obtain ⟨A', c', e'⟩ := Kd.R_slice h1
  subst e'
  generalize hbs : (bs.take _ ++ kb :: bs.drop _).length = m at H1 ⊢
  have HBS := am hbs
  clear h1 h2 h3 h4 hx1 hx6 hx6a hbs
  go_wp2_with (first | ((with_reducible refine gate_store (t := 96) (p := 28) rfl ?_); refine store_event (t := 96) (p := 28) (v := ?vo) (w1 := w1.setCell ⟨b, 6, none⟩ (.slice A' m c')) ?hg ?ho ?hn ?hr ?_; (case ho => rfl); (case hg => rfl); (case hn => rfl); (case hr => first | (go_simp; done) | (go_simp; rfl)); intro w2 hw2; have HM := am (regr_mid HX.out.1 ⟨bs, HX.out.2.2.1⟩ H1.out.1 ((Kept.of_below HX.out.2.2.2.2 (fun k => (Value.slice Ak bs.length ck).ownBlock = some k)).then_ H1.out.2.1 (fun k hk => .inl hk)) (fun B hB => (HX.out.2.2.2.2.mono (Nat.le_trans hB HALL.out.2.2.2.2.2.2)).trans (H1.out.2.2.1 B hB)) HALL.out.1 HALL.out.2.2.1 HALL.out.2.2.2.2.1 hw2); clear hw2 hc6 hcf; have HC := am (count_calls w2 base b n A c _ up pl (bs.take bs.length ++ kb :: bs.drop bs.length) HM.out.1 HM.out.2.1 (fun k hk => by obtain ⟨n1, A1, c1, kv1, up1, pl1, h1⟩ := HALL.out.1 k hk; exact ⟨_, _, _, _, _, _, HM.out.2.2.1 k hk _ _ _ _ _ _ h1⟩) HALL.out.2.1 HALL.out.2.2.1 HALL.out.2.2.2.1)) | (go_at_call 143; refine (show Calls _ _ #[.pointer (some ⟨b, 0, none⟩)] _ _ from HC.out).mono ?_; rintro e w3 ⟨rfl, h3⟩; have H3 := am h3; clear h3))
  go_end0
  refine ⟨rfl, regr_of HM.out.1 HM.out.2.1 HM.out.2.2.1 HALL.out.1 HM.out.2.2.2.1 HM.out.2.2.2.2 HALL.out.2.2.2.2.1 HALL.out.2.2.2.2.2.1 ?_ H3.out⟩
  rcases H1.out.2.2.2 with h | ⟨k, h1, h2⟩
  ·exact .inl h
  ·exact .inr ⟨k, h1, by simp at h2; omega⟩
 ·obtain ⟨_, _, _, hk8, _⟩ := twig_cells hk1
  clear hx hrow hkids hd hb hbb hkb hbase hxa hra hob hba hperm hmem hlen hxf hi hk1
  unfold ptr
  go_enter Tryz.func149, Tryz.ntmps149
  go_wp2_with fail
  refine HI.out.mono ?_
  rintro e w1 ⟨kv', rfl, h1, h2, h3, h4⟩
  have hx1 := (h2.2 b (blk_lt HX.out.2.1) (fun e => row_ne HX.out.2.2.2.1 HX.out.2.1 e)).trans HX.out.2.1
  have hc6 : w1.cell? ⟨b, 6, none⟩ = some (.slice Ak bs.length ck) := blk_cell hx1 6
  have hcf := blk_frozen hx1 6
  have H1 := am (And.intro h1 (And.intro h2 (And.intro h3 h4)))
  obtain ⟨A', c', e'⟩ := Kd.R_slice h1
  subst e'
  generalize hbs : (bs.take _ ++ kb :: bs.drop _).length = m at H1 ⊢
  have HBS := am hbs
  clear h1 h2 h3 h4 hx1 hx6 hx6a hbs
  go_wp2_with (first | ((with_reducible refine gate_store (t := 96) (p := 28) rfl ?_); refine store_event (t := 96) (p := 28) (v := ?vo) (w1 := w1.setCell ⟨b, 6, none⟩ (.slice A' m c')) ?hg ?ho ?hn ?hr ?_; (case ho => rfl); (case hg => rfl); (case hn => rfl); (case hr => first | (go_simp; done) | (go_simp; rfl)); intro w2 hw2; have HM := am (regr_mid HX.out.1 ⟨bs, HX.out.2.2.1⟩ H1.out.1 ((Kept.of_below HX.out.2.2.2.2 (fun k => (Value.slice Ak bs.length ck).ownBlock = some k)).then_ H1.out.2.1 (fun k hk => .inl hk)) (fun B hB => (HX.out.2.2.2.2.mono (Nat.le_trans hB HALL.out.2.2.2.2.2.2)).trans (H1.out.2.2.1 B hB)) HALL.out.1 HALL.out.2.2.1 HALL.out.2.2.2.2.1 hw2); clear hw2 hc6 hcf; have HC := am (count_calls w2 base b n A c _ up pl (bs.take i ++ kb :: bs.drop i) HM.out.1 HM.out.2.1 (fun k hk => by obtain ⟨n1, A1, c1, kv1, up1, pl1, h1⟩ := HALL.out.1 k hk; exact ⟨_, _, _, _, _, _, HM.out.2.2.1 k hk _ _ _ _ _ _ h1⟩) HALL.out.2.1 HALL.out.2.2.1 HALL.out.2.2.2.1)) | (go_at_call 143; refine (show Calls _ _ #[.pointer (some ⟨b, 0, none⟩)] _ _ from HC.out).mono ?_; rintro e w3 ⟨rfl, h3⟩; have H3 := am h3; clear h3))
  go_end0
  refine ⟨rfl, regr_of HM.out.1 HM.out.2.1 HM.out.2.2.1 HALL.out.1 HM.out.2.2.2.1 HM.out.2.2.2.2 HALL.out.2.2.2.2.1 HALL.out.2.2.2.2.2.1 ?_ H3.out⟩
  rcases H1.out.2.2.2 with h | ⟨k, h1, h2⟩
  ·exact .inl h
  ·exact .inr ⟨k, h1, by simp at h2; omega⟩
def Trees (w0 w : World) (base : Nat) : Fo TW → Prop
 | .nil => True
 | .node x k r => (∃ up i, IsF w0 w base up i (.node x k .nil)) ∧ Trees w0 w base r
section
variable {w0 w w1 w' : World} {base : Nat}
theorem IsF.trees : ∀ (f : Fo TW) (up : Value) (i : Nat), IsF w0 w base up i f → Trees w0 w base f
 | .nil, _, _, _ => trivial
 | .node x k r, up, i, h => ⟨⟨up, i, h.1, h.2.1, trivial⟩, IsF.trees r up (i + 1) h.2.2⟩
theorem Trees.app : ∀ (f g : Fo TW), Trees w0 w base f → Trees w0 w base g → Trees w0 w base (Fo.app f g)
 | .nil, g, _, h => h
 | .node x k r, g, h, h2 => ⟨h.1, Trees.app r g h.2 h2⟩
theorem Trees.take : ∀ (j : Nat) (f : Fo TW), Trees w0 w base f → Trees w0 w base (ftake j f)
 | 0, f, _ => trivial
 | _ + 1, .nil, _ => trivial
 | j + 1, .node x k r, h => ⟨h.1, Trees.take j r h.2⟩
theorem Trees.drop : ∀ (j : Nat) (f : Fo TW), Trees w0 w base f → Trees w0 w base (fdrop j f)
 | 0, f, h => h
 | _ + 1, .nil, h => trivial
 | j + 1, .node x k r, h => Trees.drop j r h.2
theorem Trees.retop : ∀ (f : Fo TW) (up' : Value) (i' : Nat), Trees w0 w base f → (∀ j, j < len f → ∀ n A c kv up pl, TwigB w ((bsOf f).getD j 0) n A c kv up pl → TwigB w' ((bsOf f).getD j 0) n A c kv up' ((i' + j : Nat) : Int)) →
  (∀ b ∈ foot f, b ∉ bsOf f → w'.heap[b]? = w.heap[b]?) → (foot f).Nodup → IsF w0 w' base up' i' f
 | .nil, _, _, _, _, _, _ => trivial
 | .node x k r, up', i', ⟨⟨up, i, h1, h2, _⟩, h3⟩, ht, hk, hd => by
  simp only [foot] at hd
  have hd1 := List.nodup_cons.1 hd
  have hd2 := List.nodup_append.1 hd1.2
  have hd3 := List.nodup_append.1 hd2.2.1
  have hbs : bsOf (Fo.node x k r) = x.b :: bsOf r := rfl
  have htop : ∀ b ∈ bsOf r, b ∈ foot r := fun b hb => by
   obtain ⟨y, hy, rfl⟩ := List.mem_map.1 hb
   have key : ∀ (f : Fo TW), y ∈ tops f → y.b ∈ foot f := by
    intro f
    induction f with
    | nil => intro h; simp [tops] at h
    | node x k r _ ih =>
     intro h
     simp only [tops, List.mem_cons] at h
     rcases h with rfl | h
     ·simp [foot]
     ·simp [foot, ih h]
   exact key r hy
  refine ⟨⟨?_, h1.2.1, h1.2.2.1, row_keep h1.2.2.2 (fun b hb => hk b (by simp [foot, hb]) ?_)⟩, IsF.keep k _ _ h2 (fun b hb => hk b (by simp [foot, hb]) ?_), Trees.retop r up' (i' + 1) h3 (fun j hj n A c kv up pl hT => ?_) (fun b hb hnb => hk b (by simp [foot, hb]) ?_) hd3.2.1⟩
  ·obtain ⟨A, c, ha, hT⟩ := h1.1
   have h0 := ht 0 (by simp [len]) x.n A c x.kv up i (by rw [hbs]; exact hT)
   rw [hbs, Nat.add_zero] at h0
   exact ⟨A, c, ha, h0⟩
  ·rw [hbs]
   intro hm
   rcases List.mem_cons.1 hm with rfl | hm
   ·exact hd1.1 (by simp [hb])
   ·exact hd2.2.2 b (by simp [hb]) b (by simp [htop b hm]) rfl
  ·rw [hbs]
   intro hm
   rcases List.mem_cons.1 hm with rfl | hm
   ·exact hd1.1 (by simp [hb])
   ·exact hd3.2.2 b hb b (htop b hm) rfl
  ·have := ht (j + 1) (by simp [len]; omega) n A c kv up pl (by rw [hbs]; exact hT)
   rw [hbs] at this
   rw [show i' + 1 + j = i' + (j + 1) from by omega]
   exact this
  ·rw [hbs]
   intro hm
   rcases List.mem_cons.1 hm with rfl | hm
   ·exact hd1.1 (by simp [hb])
   ·exact hnb hm
theorem bsOf_foot (f : Fo TW) (b : Nat) (hb : b ∈ bsOf f) : b ∈ foot f := by
 obtain ⟨y, hy, rfl⟩ := List.mem_map.1 hb
 clear hb
 induction f with
 | nil => simp [tops] at hy
 | node x k r _ ih =>
  simp only [tops, List.mem_cons] at hy
  rcases hy with rfl | h
  ·simp [foot]
  ·simp [foot, ih h]
theorem IsF.sub {f : Fo TW} {y : TW} {l : Fo TW} (hs : Sub f y l) : ∀ (up : Value) (i : Nat), IsF w0 w base up i f → ∃ upy iy, (TwigN w0 w y.b y.n y.kv upy ((iy : Nat) : Int) ∧ base ≤ y.b ∧ y.n.f5 = (len l : Int) ∧ PtrRow w base y.kv (bsOf l)) ∧ IsF w0 w base (ptr y.b) 0 l := by
 induction hs with
 | here x k r => intro up i h; exact ⟨up, i, h.1, h.2.1⟩
 | kid x k r y l _ ih => intro up i h; exact ih _ _ h.2.1
 | next x k r y l _ ih => intro up i h; exact ih _ _ h.2.2
theorem foot_upd {f : Fo TW} {y : TW} {l : Fo TW} {b0 : Nat} (hs : Sub f y l) (hy : y.b = b0) : (foot f).Nodup → ∃ P Q, foot f = P ++ (tfoot y l ++ Q) ∧ ∀ (x' : TW → TW) (g : Fo TW → Fo TW), foot (Fo.upd (fun y => y.b == b0) x' g f) = P ++ (tfoot (x' y) (g l) ++ Q) := by
 induction hs with
 | here x k r =>
  intro hd
  refine ⟨[], foot r, by simp [foot, tfoot], fun x' g => ?_⟩
  have e : Fo.upd (fun y : TW => y.b == b0) x' g (.node x k r) = .node (x' x) (g k) r := by simp [Fo.upd, hy]
  rw [e]
  simp [foot, tfoot]
 | kid x k r y l hs ih =>
  intro hd
  have hsub := sub_foot hs
  simp only [foot] at hd
  have hd1 := (List.nodup_cons.1 hd)
  have hd2 := List.nodup_append.1 hd1.2
  have hd3 := List.nodup_append.1 hd2.2.1
  have hyk : y.b ∈ foot k := hsub _ (by simp [tfoot])
  have hxy : x.b ≠ b0 := fun e => hd1.1 (by rw [e, ← hy]; simp [hyk])
  have hbr : b0 ∉ foot r := fun e => hd3.2.2 _ hyk _ (hy ▸ e) rfl
  obtain ⟨P, Q, h1, h2⟩ := ih hy hd3.1
  refine ⟨x.b :: (x.kv.ownBlock.toList ++ P), Q ++ foot r, by simp [foot, h1], fun x' g => ?_⟩
  have e : Fo.upd (fun y : TW => y.b == b0) x' g (.node x k r) = .node x (Fo.upd (fun y : TW => y.b == b0) x' g k) r := by
   simp [Fo.upd, hxy, upd_other b0 x' g r hbr]
  rw [e]
  simp [foot, h2]
 | next x k r y l hs ih =>
  intro hd
  have hsub := sub_foot hs
  simp only [foot] at hd
  have hd1 := (List.nodup_cons.1 hd)
  have hd2 := List.nodup_append.1 hd1.2
  have hd3 := List.nodup_append.1 hd2.2.1
  have hyr : y.b ∈ foot r := hsub _ (by simp [tfoot])
  have hxy : x.b ≠ b0 := fun e => hd1.1 (by rw [e, ← hy]; simp [hyr])
  have hbk : b0 ∉ foot k := fun e => hd3.2.2 _ (hy ▸ e) _ hyr rfl
  obtain ⟨P, Q, h1, h2⟩ := ih hy hd3.2.1
  refine ⟨x.b :: (x.kv.ownBlock.toList ++ (foot k ++ P)), Q, by simp [foot, h1], fun x' g => ?_⟩
  have e : Fo.upd (fun y : TW => y.b == b0) x' g (.node x k r) = .node x k (Fo.upd (fun y : TW => y.b == b0) x' g r) := by
   simp [Fo.upd, hxy, upd_other b0 x' g k hbk]
  rw [e]
  simp [foot, h2]
end
theorem twigB_inj {w : World} {b : Nat} {n : S95} {A A' : Option Addr} {c c' : Nat} {kv up up' : Value} {pl pl' : Int} (h : TwigB w b n A c kv up pl) (h' : TwigB w b n A' c' kv up' pl') : A = A' ∧ c = c' ∧ up = up' ∧ pl = pl' := by
 have h1 : w.heap[b]? = _ := h
 rw [h'] at h1
 injection h1 with h1
 injection h1 with h1 _
 simp [twigCells] at h1
 exact ⟨h1.1.1.symm, h1.1.2.symm, h1.2.1.symm, h1.2.2.symm⟩
theorem regr_upd {w0 w w' : World} {base pb : Nat} {F kf kf' : Fo TW} {y : TW} {A : Option Addr} {c : Nat} {upy : Value} {ply : Int} (hnd : (foot F).Nodup) (hs : Sub F y kf) (hy : y.b = pb) (hB : TwigB w pb y.n A c y.kv upy ply) (hR : Regr w w' base pb y.n A c y.kv upy ply (bsOf kf')) (hT : Trees w0 w base kf') (hnd' : (foot kf').Nodup)
  (hfar : ∀ b ∈ foot kf', b ≠ pb ∧ y.kv.ownBlock ≠ some b ∧ b < w.heap.size) (hin : ∀ b ∈ bsOf kf', b ∈ foot F → b ∈ tfoot y kf) (hlt : ∀ b ∈ foot F, b < w.heap.size) :
  ∃ kv', (y.kv.ownBlock = kv'.ownBlock ∨ ∃ k, kv'.ownBlock = some k ∧ w.heap.size ≤ k) ∧ ∀ up i, IsF w0 w base up i F → IsF w0 w' base up i (Fo.upd (fun y => y.b == pb) (fun _ => ⟨pb, withKids y.n (len kf'), kv'⟩) (fun _ => kf') F) := by
 obtain ⟨kv', h1, h2, h3⟩ := hR.ex
 refine ⟨kv', by rcases h3 with h | h; exact .inl h.symm; exact .inr h, fun up i hF => ?_⟩
 have hl : (bsOf kf').length = len kf' := bsOf_length kf'
 rw [hl] at h1
 have hsub := sub_foot hs
 subst hy
 have key : IsF w0 w' base up i (Fo.upd (fun z => z.b == y.b) (fun z => ⟨z.b, withKids y.n (len kf'), kv'⟩) (fun _ => kf') F) := by
  refine IsF.upd (S := y.b :: (y.kv.ownBlock.toList ++ (bsOf kf').filter (fun b => decide (b ∈ foot F)))) (x' := fun z => ⟨z.b, withKids y.n (len kf'), kv'⟩) (fun _ => rfl) hs rfl ?_ (fun up pl hN hl _ => ?_) up i hF hnd (fun b hb hbS => ?_)
  ·intro b hb
   simp only [List.mem_cons, List.mem_append, List.mem_filter, decide_eq_true_eq] at hb
   rcases hb with rfl | hb | hb
   ·simp [tfoot]
   ·simp [tfoot, hb]
   ·exact hin b hb.1 hb.2
  ·obtain ⟨A2, c2, ha, hb⟩ := hN
   obtain ⟨e1, e2, e3, e4⟩ := twigB_inj (show TwigB w y.b y.n A2 c2 y.kv up pl from hb) hB
   subst e1 e2 e3 e4
   refine ⟨⟨⟨_, _, ha, h1⟩, ?_, rfl, h2⟩, ?_⟩
   ·obtain ⟨_, _, h5, _⟩ := IsF.sub hs _ _ hF
    exact h5.2.1
   ·refine Trees.retop kf' (ptr y.b) 0 hT (fun j hj n A c kv up pl ht => ?_) (fun b hb hnb => ?_) hnd'
    ·rw [Nat.zero_add]
     exact hR.kids j (by rw [bsOf_length]; exact hj) n A c kv up pl ht
    ·have hf := hfar b hb
     exact hR.kept.2 b hf.2.2 (by rintro (h | h | h); exact hf.1 h; exact hf.2.1 h; exact hnb h)
  ·simp only [List.mem_cons, List.mem_append, List.mem_filter, decide_eq_true_eq, Option.mem_toList, not_or, not_and] at hbS
   refine hR.kept.2 b (hlt b hb) ?_
   rintro (h | h | h)
   ·exact hbS.1 h
   ·exact hbS.2.1 h
   ·exact hbS.2.2 h hb
 have e : Fo.upd (fun z : TW => z.b == y.b) (fun z => ⟨z.b, withKids y.n (len kf'), kv'⟩) (fun _ => kf') F = Fo.upd (fun z : TW => z.b == y.b) (fun _ => ⟨y.b, withKids y.n (len kf'), kv'⟩) (fun _ => kf') F := by
  have : ∀ f : Fo TW, Fo.upd (fun z : TW => z.b == y.b) (fun z => ⟨z.b, withKids y.n (len kf'), kv'⟩) (fun _ => kf') f = Fo.upd (fun z : TW => z.b == y.b) (fun _ => ⟨y.b, withKids y.n (len kf'), kv'⟩) (fun _ => kf') f := by
   intro f
   induction f with
   | nil => rfl
   | node x k r ih1 ih2 =>
    unfold Fo.upd
    by_cases h : x.b = y.b
    ·simp [h]
    ·simp [h, ih1, ih2]
  exact this F
 rw [← e]
 exact key
end Go.Proofs.YthjgohbkpjhkeaaGreatDoor.Impl
