/- Part 11 of the proof: DoTo. -/
import Derived.Test.YthjgohbkpjhkeaaGreatDoorA1
import Derived.Test.YthjgohbkpjhkeaaGreatDoorA10
set_option linter.unusedVariables false
set_option linter.unusedSimpArgs false
set_option maxHeartbeats 4000000
set_option maxRecDepth 100000
namespace Go.Proofs.YthjgohbkpjhkeaaGreatDoor.FireSpec
open Go.RowKit Go.Proofs.YthjgohbkpjhkeaaGreatDoorW.PrintWords Go.Proofs.YthjgohbkpjhkeaaGreatDoor.PFnExactDo Go.Proofs.YthjgohbkpjhkeaaGreatDoor.Tr
abbrev LNode := S108
abbrev LAttr := S189
def cpAttr (a : LAttr) : Attr := ⟨a.f0, a.f1⟩
def cpNode (n : LNode) : Node := ⟨n.f0, n.f1, n.f2, n.f3.map cpAttr, n.f4, n.f5⟩
theorem fill_step {α β : Type} (xs : List α) (f : α → β) (z : β) (i : Nat) (hi : i < xs.length) :
  ((xs.take i).map f ++ List.replicate (xs.length - i) z).set i (f xs[i]) = (xs.take (i + 1)).map f ++ List.replicate (xs.length - (i + 1)) z := by
 have hl : ((xs.take i).map f).length = i := by simp; omega
 rw [List.set_append_right _ _ (by omega), hl, Nat.sub_self, List.take_succ_eq_append_getElem hi, List.map_append]
 obtain ⟨m, hm⟩ : ∃ m, xs.length - i = m + 1 := ⟨xs.length - i - 1, by omega⟩
 rw [hm, List.replicate_succ, List.set_cons_zero, show xs.length - (i + 1) = m from by omega]
 simp
end Go.Proofs.YthjgohbkpjhkeaaGreatDoor.FireSpec
namespace Go.Proofs.YthjgohbkpjhkeaaGreatDoor.Impl
open Go.RowKit Go.Proofs.YthjgohbkpjhkeaaGreatDoorW.PrintWords Go.Proofs.YthjgohbkpjhkeaaGreatDoorW.PrintLast Go.Proofs.YthjgohbkpjhkeaaGreatDoorW.PrintMore Go.Proofs.YthjgohbkpjhkeaaGreatDoor.PFnExactDo Go.Proofs.YthjgohbkpjhkeaaGreatDoor.MapLib Go.Proofs.YthjgohbkpjhkeaaGreatDoor.FireSpec Go.Proofs.YthjgohbkpjhkeaaGreatDoor.Tr
theorem sets_frame {b : Nat} : ∀ (vs : List Value) (j : Nat) (w : World), (∀ k, k ≠ b → (w.setCells b j vs).heap[k]? = w.heap[k]?) ∧ (w.setCells b j vs).heap.size = w.heap.size ∧ ∀ B w0, Below B w0 w → B ≤ b → Below B w0 (w.setCells b j vs)
 | [], _, _ => ⟨fun _ _ => rfl, rfl, fun _ _ h _ => h⟩
 | v :: vs, j, w => by
  obtain ⟨h1, h2, h3⟩ := sets_frame vs (j + 1) (w.setCell ⟨b, j, none⟩ v)
  exact ⟨fun k hk => (h1 k hk).trans (Below.heap_setCell w ⟨b, j, none⟩ v k hk), h2.trans (by simp [World.setCell]), fun B w0 h hB => h3 B w0 (h.setCell hB v) hB⟩
theorem sets_put {b : Nat} {t : TypeId} : ∀ (vs a : List Value) (c : Array Value) (w : World), w.heap[b]? = some (.cells c t (0, 0)) → c.toList.take a.length = a → c.size = a.length + vs.length → (w.setCells b a.length vs).heap[b]? = some (.cells (a ++ vs).toArray t (0, 0))
 | [], a, c, w, h, ha, hl => by
  rw [List.take_of_length_le (by simp at hl ⊢; omega)] at ha
  rw [List.append_nil, ← ha]
  exact h
 | v :: vs, a, c, w, h, ha, hl => by
  have h1 := (set_block (j := a.length) (v := v) rfl h).1
  have h2 := sets_put vs (a ++ [v]) _ _ h1 (by
   rw [Array.toList_setIfInBounds, List.length_append, List.take_set]
   simp only [List.length_cons] at hl
   rw [List.length_singleton, List.take_succ_eq_append_getElem (by simp; omega), ha, List.set_append_right _ _ (Nat.le_refl _)]
   simp) (by simp at hl ⊢; omega)
  rw [List.length_append, List.append_assoc] at h2
  exact h2
theorem sets_all {w w' : World} {b : Nat} {t : TypeId} {cs : Array Value} (vs : List Value) (h : w.heap[b]? = some (.cells cs t (0, 0))) (hl : cs.size = vs.length) (hw : w' = w.setCells b 0 vs) : w'.heap[b]? = some (.cells vs.toArray t (0, 0)) ∧ (∀ k, k ≠ b → w'.heap[k]? = w.heap[k]?) ∧ w'.heap.size = w.heap.size ∧ ∀ B w0, Below B w0 w → B ≤ b → Below B w0 w' := by
 subst hw
 exact ⟨sets_put vs [] cs w h rfl (by simpa using hl), sets_frame vs 0 w⟩
theorem below3 {w : World} {x y z : Obj} : Below w.heap.size w (((w.alloc x).alloc y).alloc z) := (((Below.refl _ w).alloc (Nat.le_refl _) _).alloc (by simp) _).alloc (by simp; omega) _
theorem toAttr_calls (a b : ByteArray) (w : World) : Calls Tryz.prog 120 #[.agg #[.string a, .string b]] w fun e w' => e = .returned (.agg #[.string a, .string b]) ∧ Below w.heap.size w w' := by
 have hut := Tryz.underlying189
 have hun := Tryz.underlying149
 go_enter Tryz.func120, Tryz.ntmps120
 go_wp2_with fail
 exact bodyPost_ret (v := .agg #[.string a, .string b]) (by simp [results, Tryz.results120, go_sem, hun]) rfl ⟨rfl, below3⟩
theorem fill_attr {W : World} {base g n cap i : Nat} {ok : Nat → Prop} {L : List S149} (h : Kd.R k149 149 W base ok (.slice (some ⟨g, 0, none⟩) n cap) L) (hi : i < L.length) (x : S149) : (∃ u, W.cell? ⟨g, i * 2, none⟩ = some (.string u)) ∧ (∃ u, W.cell? ⟨g, i * 2 + 1, none⟩ = some (.string u)) ∧ W.frozen? ⟨g, i * 2, none⟩ = false ∧ W.frozen? ⟨g, i * 2 + 1, none⟩ = false ∧
  ∀ W', W' = (W.setCell ⟨g, i * 2, none⟩ (.string x.f0)).setCell ⟨g, i * 2 + 1, none⟩ (.string x.f1) → Kd.R k149 149 W' base ok (.slice (some ⟨g, 0, none⟩) n cap) (L.set i x) := by
 have hn : n = L.length := (Kd.R_reads' h).1
 obtain ⟨ce, hcl, hM, hcc, hfr⟩ := Kd.R_elem h z149 (i : Int) (by omega) (by omega)
 obtain rfl := k149_openM hM
 have hP := Kd.R_seg h (i : Int) (by omega) (by omega) (seg := [.string x.f0, .string x.f1]) (j := 0) hcl hcc (show 2 ≤ 2 from by decide) (x' := x) (okp := fun _ => False) (k149_mkM _ _ _ x) (fun _ hk => hk.elim)
 simp only [Int.toNat_natCast] at hcc hfr hP
 exact ⟨⟨_, hcc 0 _ rfl⟩, ⟨_, hcc 1 _ rfl⟩, hfr 0, hfr 1, fun W' hW => by subst hW; exact hP.1⟩
theorem toAttrS_calls (xs : List S189) (hn : xs.length ≤ 1048576) (A : Option Addr) (c : Nat) (w : World) (hr : Kd.C k189 w A xs.length xs) (hc : xs.length ≤ c) :
  Calls Tryz.prog 104 #[.slice A xs.length c] w fun e w' => ∃ v, e = .returned v ∧ Kd.R k149 149 w' w.heap.size (fun _ => True) v (xs.map cpAttr) ∧ Below w.heap.size w w' := by
 have HX := am hr
 have hut := Tryz.underlying189
 have hun := Tryz.underlying149
 clear hr
 go_enter Tryz.func104, Tryz.ntmps104
 go_wp2_with (((with_reducible refine gate_dst (N := 7) rfl ?_); refine Kd.R_make k149 (w0 := w) w.heap.size 149 rfl (N := 7) rfl 93 _ _ rfl (xs.length : Int) rfl rfl Tryz.underlying93 (.agg #[.string ⟨#[]⟩, .string ⟨#[]⟩]) 32 info149 rfl (by decide) (by omega) z149 (ok := fun _ => True) (okp := fun _ => True) (k149_mkM _ _ _ z149) (fun _ hk => hk) trivial (by omega) (by omega) (Below.refl _ _) (Nat.le_refl _) ?_; intro v1 w1 ho hb hg_ hnew_; have HO1 := am ho; have HB1 := am hb; clear hg_ hnew_ ho hb))
 obtain ⟨A5, c5, e5⟩ := Kd.R_slice HO1.out
 rw [List.length_replicate, Int.toNat_natCast] at e5
 subst e5
 go_loopg [4] (xs.length + 1) (fun kq v4 wr => ∃ i : Nat, v4 = .int .i64 i ∧ Aside0 (i + kq = xs.length + 1 ∧ i ≤ xs.length) ∧ Aside0 (Kd.R k149 149 wr w.heap.size (fun _ => True) (.slice A5 xs.length c5) ((xs.take i).map cpAttr ++ List.replicate (xs.length - i) z149)) ∧ Aside0 (Below w.heap.size w wr))
 case atStart => exact ⟨0, rfl, ⟨by omega, by omega⟩, ⟨by simpa using HO1.out⟩, HB1⟩
 case round =>
  obtain ⟨i, rfl, HI, HO, HB⟩ := hrel
  have hd : decide ((i : Int) < (xs.length : Int)) = decide (i < xs.length) := by simp
  by_cases hlt : i < xs.length
  ·have hd2 : decide (i < xs.length) = true := decide_eq_true hlt
   rw [hd2] at hd
   have hib : (i : Int) ≤ 1048576 := by omega
   have e3 := eq_true (show (0 : Int) ≤ (i : Int) from by omega)
   have e4 := eq_true (show (i : Int) < xs.length from by omega)
   obtain ⟨ad, hA, hx0, hx1⟩ := at_T189 (Kd.C_below HX.out HB.out) (i : Int) (by omega) (by omega)
   subst hA
   rw [show rd_T189 xs (i : Int) = xs[i] from by simp [rd_T189, hlt]] at hx0 hx1
   simp only [Int.toNat_natCast] at hx0 hx1
   have hfill := fill_step xs cpAttr z149 i hlt
   have hll : ((xs.take i).map cpAttr ++ List.replicate (xs.length - i) z149).length = xs.length := by simp; omega
   generalize (xs.take i).map cpAttr ++ List.replicate (xs.length - i) z149 = L at HO hfill hll
   obtain ⟨g, c1, e5, gb, gl, cl, hcl⟩ := Kd.R_form HO.out (by omega)
   injection e5 with e5 e7 e6
   clear e7
   subst e5 e6
   have HF := am (fun W hW => fill_attr (i := i) (Kd.R_below HO.out (w1 := W) hW) (by omega) (cpAttr xs[i]))
   have HG := am gb
   have HI2 := am (And.intro hlt hfill)
   generalize xs[i] = x at hx0 hx1 HF HI2
   clear hlt hfill hcl gb gl HO hll
   go_wp2_with (first | (go_at_call 120; refine (toAttr_calls _ _ _).mono ?_; rintro e w2 ⟨rfl, hb2⟩; obtain ⟨⟨_, f0⟩, ⟨_, f1⟩, f2, f3, hF⟩ := HF.out _ hb2; have H2 := am hF; have HB2 := am (below_step HB.out hb2); clear hb2 hF) | fail)
   generalize hw3 : World.setCell _ _ _ = w3
   have H3 := am (And.intro (H2.out w3 hw3.symm) (show Below w.heap.size w w3 from hw3 ▸ below_set (below_set HB2.out HG.out) HG.out))
   clear hw3 f0 f1 f2 f3
   go_wp2
   have hii : (i : Int) + 1 = ((i + 1 : Nat) : Int) := by omega
   go_roundg (gk - 1)
   case measure => have := HI.out; have := HI2.out.1; omega
   case rel => exact ⟨i + 1, by rw [hii], ⟨by have := HI.out; have := HI2.out.1; omega, HI2.out.1⟩, ⟨by rw [← HI2.out.2]; exact H3.out.1⟩, ⟨H3.out.2⟩⟩
  ·have hd2 : decide (i < xs.length) = false := decide_eq_false hlt
   rw [hd2] at hd
   have HE := am (show (xs.take i).map cpAttr ++ List.replicate (xs.length - i) z149 = xs.map cpAttr from by have := HI.out; rw [List.take_of_length_le (by omega), show xs.length - i = 0 from by omega]; simp)
   clear hlt
   go_wp2
   go_ret
   exact ⟨_, rfl, by rw [← HE.out]; exact HO.out, HB.out⟩
theorem blk3 {w : World} {x y z : Obj} : (((w.alloc x).alloc y).alloc z).heap[w.heap.size]? = some x ∧ (((w.alloc x).alloc y).alloc z).heap[w.heap.size + 1]? = some y ∧ (((w.alloc x).alloc y).alloc z).heap[w.heap.size + 1 + 1]? = some z := by
 have h1 := blk_below (blk_newest w x) (((Below.refl _ _).alloc (Nat.le_refl _) y).alloc (by simp) z)
 have h2 := blk_below (blk_newest (w.alloc x) y) ((Below.refl _ _).alloc (Nat.le_refl _) z)
 have h3 := blk_newest ((w.alloc x).alloc y) z
 rw [show (w.alloc x).heap.size = w.heap.size + 1 from by simp] at h2
 rw [show ((w.alloc x).alloc y).heap.size = w.heap.size + 1 + 1 from by simp] at h3
 exact ⟨h1, h2, h3⟩
theorem toNode_calls (x : S108) (hx : x.f3.length ≤ 1048576) (A : Option Addr) (c : Nat) (w : World) (hr : Kd.C k189 w A x.f3.length x.f3) (hc : x.f3.length ≤ c) :
  Calls Tryz.prog 74 #[.agg #[.int .i64 x.f0, .int .i64 x.f1, .string x.f2, .slice A x.f3.length c, .string x.f4, .int .i64 x.f5]] w fun e w' => ∃ v, e = .returned (.agg #[.int .i64 x.f0, .int .i64 x.f1, .string x.f2, v, .string x.f4, .int .i64 x.f5]) ∧ Kd.R k149 149 w' w.heap.size (fun _ => True) v (x.f3.map cpAttr) ∧ Below w.heap.size w w' := by
 have hut := Tryz.underlying108
 have hun := Tryz.underlying95
 have HS := am (fun W hW => toAttrS_calls x.f3 hx A c W (Kd.C_below hr hW) hc)
 clear hr hc hx
 go_enter Tryz.func74, Tryz.ntmps74
 go_wp2_with (first | (go_at_call 104; refine (HS.out _ below3).mono ?_; rintro e w3 ⟨v, rfl, hR, hb3⟩; obtain ⟨A5, c5, e5⟩ := Kd.R_slice hR; rw [List.length_map] at e5; subst e5; have h1 := blk_below blk3.1 hb3; have h2 := blk_below blk3.2.1 hb3; have h3 := blk_below blk3.2.2 hb3; have H3 := am (And.intro h2 h3); have HB3 := am (below_step below3 hb3); have HR3 := am hR; have x4 := blk_cell h1 4; have x5 := blk_cell h1 5; have z0 := blk_cell h2 0; have z1 := blk_cell h2 1; have z2 := blk_cell h2 2; have z3 := blk_cell h2 3; have z4 := blk_cell h2 4; have z5 := blk_cell h2 5; have f0 := blk_frozen h2 0; have f1 := blk_frozen h2 1; have f2 := blk_frozen h2 2; have f3 := blk_frozen h2 3; have f4 := blk_frozen h2 4; have f5 := blk_frozen h2 5; have g3 := blk_frozen h3 3; have g4 := blk_frozen h3 4; have g5 := blk_frozen h3 5; have y0 := blk_cell h3 0; have y1 := blk_cell h3 1; have y2 := blk_cell h3 2; have y3 := blk_cell h3 3; have y4 := blk_cell h3 4; have y5 := blk_cell h3 5; clear h1 h2 h3 hR hb3) | fail)
 generalize hw9 : World.setCell _ _ _ = w9
 have h5 := sets_frame (b := w.heap.size + 1 + 1) [.slice A5 x.f3.length c5, .string x.f4, .int .i64 x.f5] 3 w3
 have h6 := sets_all (b := w.heap.size + 1) [.int .i64 x.f0, .int .i64 x.f1, .string x.f2, .slice A5 x.f3.length c5, .string x.f4, .int .i64 x.f5] ((h5.1 _ (by omega)).trans H3.out.1) rfl hw9.symm
 have u := blk_cell h6.1
 refine bodyPost_ret (v := .agg #[.int .i64 x.f0, .int .i64 x.f1, .string x.f2, .slice A5 x.f3.length c5, .string x.f4, .int .i64 x.f5]) (by simp [results, Tryz.results74, go_sem, u, hun]) rfl ⟨_, rfl, ?_, h6.2.2.2 _ _ (h5.2.2 _ _ HB3.out (by omega)) (by omega)⟩
 exact Kd.R_lower (Kd.R_mono (Kd.R_move (Kd.R_bound HR3.out) (fun k hk => by
  have hk := hk.2.1
  simp at hk
  exact (h6.2.1 k (by omega)).trans (h5.1 k (by omega)))) (fun _ _ => trivial)) (by simp; omega)
theorem fill_node {W : World} {base b2 g n cap i : Nat} {L : List S95} {v : Value} (h : Kd.S k95 95 W base (fun k => True ∧ some k ≠ v.ownBlock) (.slice (some ⟨g, 0, none⟩) n cap) L) (hi : i < L.length) (x : S95) (hR : Kd.R k149 149 W b2 (fun _ => True) v x.f3) (hb : base ≤ b2) :
  (∀ j, j < 6 → ∃ u, W.cell? ⟨g, i * 6 + j, none⟩ = some u) ∧ (∀ j, W.frozen? ⟨g, i * 6 + j, none⟩ = false) ∧
  ∀ W', W' = W.setCells g (i * 6) [.int .i64 x.f0, .int .i64 x.f1, .string x.f2, v, .string x.f4, .int .i64 x.f5] → Kd.S k95 95 W' base (fun _ => True) (.slice (some ⟨g, 0, none⟩) n cap) (L.set i x) := by
 have hn : n = L.length := (Kd.S_reads' h).1
 have HX := Kd.S_mono (ok' := fun k => True ∧ ¬ some k = v.ownBlock) h (fun k hk => hk)
 obtain ⟨oki, ce, hcl, hM, hcc, hfr, hoki, hH⟩ := Kd.S_elem HX z95 (i : Int) (by omega) (by omega)
 have hcell : ∀ j, j < 6 → ∃ u, W.cell? ⟨g, (i : Int).toNat * 6 + j, none⟩ = some u := fun j hj => ⟨_, hcc j _ (List.getElem?_eq_getElem (by rw [hcl]; exact hj))⟩
 obtain ⟨v3, rfl, ge⟩ := k95_openM hM
 have hR2 := Kd.R_mono (ok' := fun k => True ∧ k ≠ g) (Kd.R_apart' (Kd.R_lower hR hb) (Kd.S_typed h) (by decide)) (fun k hk => ⟨trivial, fun e => hk.2 (by rw [e]; rfl)⟩)
 have hP := Kd.S_seg hH (by omega) (by omega) (seg := [.int .i64 x.f0, .int .i64 x.f1, .string x.f2, v, .string x.f4, .int .i64 x.f5]) (j := 0) (show 6 ≤ 6 from by decide) (x' := x) (k95_mkM _ _ _ x (Kd.R_mono (Kd.R_tight rfl hR2) (fun _ h_ => Or.inr h_))) (fun _ hk => hk) (fun k hk => hR2.1 k hk.symm)
 simp only [Int.toNat_natCast] at hcell hfr hP
 exact ⟨hcell, hfr, fun W' hW => by subst hW; exact hP.1⟩
theorem toNodeS_calls (xs : List S108) (hn : xs.length ≤ 1048576) (ha : ∀ n ∈ xs, n.f3.length ≤ 1048576) (A : Option Addr) (c : Nat) (w : World) (hr : Kd.C k108 w A xs.length xs) (hc : xs.length ≤ c) :
  Calls Tryz.prog 42 #[.slice A xs.length c] w fun e w' => ∃ v, e = .returned v ∧ Kd.S k95 95 w' w.heap.size (fun _ => True) v (xs.map cpNode) ∧ Below w.heap.size w w' := by
 have HX := am (And.intro hr ha)
 have hut := Tryz.underlying108
 have hun := Tryz.underlying95
 clear hr ha
 go_enter Tryz.func42, Tryz.ntmps42
 go_wp2_with (((with_reducible refine gate_dst (N := 7) rfl ?_); refine Kd.S_make k95 (w0 := w) w.heap.size 95 rfl (N := 7) rfl 29 _ _ rfl (xs.length : Int) rfl rfl Tryz.underlying29 (.agg #[.int .i64 0, .int .i64 0, .string ⟨#[]⟩, .slice none 0 0, .string ⟨#[]⟩, .int .i64 0]) 80 info95 rfl (by decide) (by omega) z95 (ok := fun _ => True) (okp := fun _ => True) (k95_mkM _ _ _ z95 (Kd.R_nil _ _ _ _ _)) (fun _ hk => hk) trivial (by omega) (by omega) (Below.refl _ _) (Nat.le_refl _) ?_; intro v1 w1 ho hb hg_ hnew_; have HO1 := am ho; have HB1 := am hb; clear hg_ hnew_ ho hb))
 obtain ⟨A5, c5, e5⟩ := Kd.S_slice HO1.out
 rw [List.length_replicate, Int.toNat_natCast] at e5
 subst e5
 go_loopg [4] (xs.length + 1) (fun kq v4 wr => ∃ i : Nat, v4 = .int .i64 i ∧ Aside0 (i + kq = xs.length + 1 ∧ i ≤ xs.length) ∧ Aside0 (Kd.S k95 95 wr w.heap.size (fun _ => True) (.slice A5 xs.length c5) ((xs.take i).map cpNode ++ List.replicate (xs.length - i) z95)) ∧ Aside0 (Below w.heap.size w wr))
 case atStart => exact ⟨0, rfl, ⟨by omega, by omega⟩, ⟨by simpa using HO1.out⟩, HB1⟩
 case round =>
  obtain ⟨i, rfl, HI, HO, HB⟩ := hrel
  have hd : decide ((i : Int) < (xs.length : Int)) = decide (i < xs.length) := by simp
  by_cases hlt : i < xs.length
  ·have hd2 : decide (i < xs.length) = true := decide_eq_true hlt
   rw [hd2] at hd
   have hib : (i : Int) ≤ 1048576 := by omega
   have e3 := eq_true (show (0 : Int) ≤ (i : Int) from by omega)
   have e4 := eq_true (show (i : Int) < xs.length from by omega)
   obtain ⟨ad, A3, c3, hA, hx0, hx1, hx2, hx3, hx4, hx5, hl3, hi3⟩ := at_T108 (Kd.C_below HX.out.1 HB.out) (i : Int) (by omega) (by omega)
   subst hA
   rw [show rd_T108 xs (i : Int) = xs[i] from by simp [rd_T108, hlt]] at hx0 hx1 hx2 hx3 hx4 hx5 hl3 hi3
   simp only [Int.toNat_natCast] at hx0 hx1 hx2 hx3 hx4 hx5
   have hfill := fill_step xs cpNode z95 i hlt
   have hll : ((xs.take i).map cpNode ++ List.replicate (xs.length - i) z95).length = xs.length := by simp; omega
   generalize (xs.take i).map cpNode ++ List.replicate (xs.length - i) z95 = L at HO hfill hll
   obtain ⟨g, c1, e5, gb, gl, cl, hcl⟩ := Kd.S_form HO.out (by omega)
   injection e5 with e5 e7 e6
   clear e7
   subst e5 e6
   have HN := am (toNode_calls xs[i] (HX.out.2 _ (List.getElem_mem hlt)) A3 c3 wr hi3 hl3)
   have HF := am (fun W v hW (hR : Kd.R k149 149 W wr.heap.size (fun _ => True) v (cpNode xs[i]).f3) => fill_node (i := i) (Kd.S_elder' HO.out (Kd.R_base hR) hW) (by omega) (cpNode xs[i]) hR (below_size HB.out))
   have HG := am gb
   have HI2 := am (And.intro hlt hfill)
   generalize xs[i] = x at hx0 hx1 hx2 hx3 hx4 hx5 HN HF HI2
   clear hlt hfill hcl gb gl HO hll hl3 hi3
   go_wp2_with (first | (go_at_call 74; refine HN.out.mono ?_; rintro e w2 ⟨v, rfl, hR, hb2⟩; obtain ⟨hc, hf, hF⟩ := HF.out _ v hb2 hR; obtain ⟨A6, c6, e6⟩ := Kd.R_slice hR; rw [List.length_map] at e6; subst e6; obtain ⟨_, f0⟩ : ∃ u, w2.cell? ⟨g, i * 6, none⟩ = some u := hc 0 (by omega); obtain ⟨_, f1⟩ := hc 1 (by omega); obtain ⟨_, f2⟩ := hc 2 (by omega); obtain ⟨_, f3⟩ := hc 3 (by omega); obtain ⟨_, f4⟩ := hc 4 (by omega); obtain ⟨_, f5⟩ := hc 5 (by omega); have g0 : w2.frozen? ⟨g, i * 6, none⟩ = false := hf 0; have g1 := hf 1; have g2 := hf 2; have g3 := hf 3; have g4 := hf 4; have g5 := hf 5; have H2 := am hF; have HB2 := am (below_step HB.out hb2); clear hb2 hF hc hf hR) | fail)
   generalize hw3 : World.setCell _ _ _ = w3
   have H3 := am (And.intro (H2.out w3 hw3.symm) (show Below w.heap.size w w3 from hw3 ▸ (sets_frame (b := g) [.int .i64 x.f0, .int .i64 x.f1, .string x.f2, .slice A6 x.f3.length c6, .string x.f4, .int .i64 x.f5] (i * 6) w2).2.2 _ _ HB2.out HG.out))
   clear hw3 f0 f1 f2 f3 f4 f5 g0 g1 g2 g3 g4 g5
   go_wp2
   have hii : (i : Int) + 1 = ((i + 1 : Nat) : Int) := by omega
   go_roundg (gk - 1)
   case measure => have := HI.out; have := HI2.out.1; omega
   case rel => exact ⟨i + 1, by rw [hii], ⟨by have := HI.out; have := HI2.out.1; omega, HI2.out.1⟩, ⟨by rw [← HI2.out.2]; exact H3.out.1⟩, ⟨H3.out.2⟩⟩
  ·have hd2 : decide (i < xs.length) = false := decide_eq_false hlt
   rw [hd2] at hd
   have HE := am (show (xs.take i).map cpNode ++ List.replicate (xs.length - i) z95 = xs.map cpNode from by have := HI.out; rw [List.take_of_length_le (by omega), show xs.length - i = 0 from by omega]; simp)
   clear hlt
   go_wp2
   go_ret
   exact ⟨_, rfl, by rw [← HE.out]; exact HO.out, HB.out⟩
theorem toTree_calls (xs : List S108) (hn : xs.length ≤ 1048576) (ha : ∀ n ∈ xs, n.f3.length ≤ 1048576) (A : Option Addr) (c : Nat) (w : World) (hr : Kd.C k108 w A xs.length xs) (hc : xs.length ≤ c) : Calls Tryz.prog 11 #[.agg #[.slice A xs.length c]] w fun e w' => ∃ v, e = .returned (.agg #[v]) ∧ Kd.S k95 95 w' w.heap.size (fun _ => True) v (xs.map cpNode) ∧ Below w.heap.size w w' := by
 have hut := Tryz.underlying24
 have hun := Tryz.underlying31
 have HS := am (fun W hW => toNodeS_calls xs hn ha A c W (Kd.C_below hr hW) hc)
 clear hr hc hn ha
 go_enter Tryz.func11, Tryz.ntmps11
 go_wp2_with (first | (go_at_call 42; refine (HS.out _ below3).mono ?_; rintro e w3 ⟨v, rfl, hR, hb3⟩; obtain ⟨A5, c5, e5⟩ := Kd.S_slice hR; rw [List.length_map] at e5; subst e5; have h2 := blk_below blk3.2.1 hb3; have h3 := blk_below blk3.2.2 hb3; have H3 := am h2; have HB3 := am (below_step below3 hb3); have HR3 := am hR; have z0 := blk_cell h2 0; have f0 := blk_frozen h2 0; have y0 := blk_cell h3 0; have g0 := blk_frozen h3 0; clear h2 h3 hR hb3) | fail)
 generalize hw9 : World.setCell _ _ _ = w9
 have h5 := sets_frame (b := w.heap.size + 1 + 1) [.slice A5 xs.length c5] 0 w3
 have h6 := sets_all (b := w.heap.size + 1) [.slice A5 xs.length c5] ((h5.1 _ (by omega)).trans H3.out) rfl hw9.symm
 have u := blk_cell h6.1
 refine bodyPost_ret (v := .agg #[.slice A5 xs.length c5]) (by simp [results, Tryz.results11, go_sem, u, hun]) rfl ⟨_, rfl, ?_, h6.2.2.2 _ _ (h5.2.2 _ _ HB3.out (by omega)) (by omega)⟩
 exact Kd.S_lower (Kd.S_mono (Kd.S_move (Kd.S_bound HR3.out) (fun k hk => by
  have hk := hk.2.1
  simp at hk
  exact (h6.2.1 k (by omega)).trans (h5.1 k (by omega)))) (fun _ _ => trivial)) (by simp; omega)
theorem toChange_calls (f0 f1 f2 f3 : Int) (f4 f5 : ByteArray) (f6 : Int) (xs : List S108) (hn : xs.length ≤ 1048576) (ha : ∀ n ∈ xs, n.f3.length ≤ 1048576) (A : Option Addr) (c : Nat) (w : World) (hr : Kd.C k108 w A xs.length xs) (hc : xs.length ≤ c) : Calls Tryz.prog 12 #[.agg #[.int .i64 f0, .int .i64 f1, .int .i64 f2, .int .i64 f3, .string f4, .string f5, .int .i64 f6, .slice A xs.length c]] w fun e w' => ∃ v, e = .returned (.agg #[.int .i64 f0, .int .i64 f1, .int .i64 f2, .int .i64 f3, .string f4, .string f5, .int .i64 f6, v]) ∧ Kd.S k95 95 w' w.heap.size (fun _ => True) v (xs.map cpNode) ∧ Below w.heap.size w w' := by
 have hut := Tryz.underlying26
 have hun := Tryz.underlying33
 have HS := am (fun W hW => toNodeS_calls xs hn ha A c W (Kd.C_below hr hW) hc)
 clear hr hc hn ha
 go_enter Tryz.func12, Tryz.ntmps12
 go_wp2_with (first | (go_at_call 42; refine (HS.out _ below3).mono ?_; rintro e w3 ⟨v, rfl, hR, hb3⟩; obtain ⟨A5, c5, e5⟩ := Kd.S_slice hR; rw [List.length_map] at e5; subst e5; have h2 := blk_below blk3.2.1 hb3; have h3 := blk_below blk3.2.2 hb3; have H3 := am h2; have HB3 := am (below_step below3 hb3); have HR3 := am hR; have z0 := blk_cell h2 0; have p0 := blk_frozen h2 0; have y0 := blk_cell h3 0; have z1 := blk_cell h2 1; have p1 := blk_frozen h2 1; have y1 := blk_cell h3 1; have z2 := blk_cell h2 2; have p2 := blk_frozen h2 2; have y2 := blk_cell h3 2; have z3 := blk_cell h2 3; have p3 := blk_frozen h2 3; have y3 := blk_cell h3 3; have z4 := blk_cell h2 4; have p4 := blk_frozen h2 4; have y4 := blk_cell h3 4; have z5 := blk_cell h2 5; have p5 := blk_frozen h2 5; have y5 := blk_cell h3 5; have z6 := blk_cell h2 6; have p6 := blk_frozen h2 6; have y6 := blk_cell h3 6; have z7 := blk_cell h2 7; have p7 := blk_frozen h2 7; have y7 := blk_cell h3 7; have g7 := blk_frozen h3 7; clear h2 h3 hR hb3) | fail)
 generalize hw9 : World.setCell _ _ _ = w9
 have h5 := sets_frame (b := w.heap.size + 1 + 1) [.slice A5 xs.length c5] 7 w3
 have h6 := sets_all (b := w.heap.size + 1) [.int .i64 f0, .int .i64 f1, .int .i64 f2, .int .i64 f3, .string f4, .string f5, .int .i64 f6, .slice A5 xs.length c5] ((h5.1 _ (by omega)).trans H3.out) rfl hw9.symm
 have u := blk_cell h6.1
 refine bodyPost_ret (v := .agg #[.int .i64 f0, .int .i64 f1, .int .i64 f2, .int .i64 f3, .string f4, .string f5, .int .i64 f6, .slice A5 xs.length c5]) (by simp [results, Tryz.results12, go_sem, u, hun]) rfl ⟨_, rfl, ?_, h6.2.2.2 _ _ (h5.2.2 _ _ HB3.out (by omega)) (by omega)⟩
 exact Kd.S_lower (Kd.S_mono (Kd.S_move (Kd.S_bound HR3.out) (fun k hk => by
  have hk := hk.2.1
  simp at hk
  exact (h6.2.1 k (by omega)).trans (h5.1 k (by omega)))) (fun _ _ => trivial)) (by simp; omega)
end Go.Proofs.YthjgohbkpjhkeaaGreatDoor.Impl
