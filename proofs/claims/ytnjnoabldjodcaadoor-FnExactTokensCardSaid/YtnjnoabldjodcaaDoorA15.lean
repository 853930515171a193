/- Part 15 of the proof: TokBuild, TokRes, TokScan. -/
import Derived.Test.YtnjnoabldjodcaaDoorA14
import Derived.Lib.Builder
import Derived.Lib.UnsafeStr
import Derived.Laws.Externs
set_option linter.unusedVariables false
set_option linter.unusedSimpArgs false
namespace Go.Proofs.YtnjnoabldjodcaaDoor.Tok
open Go.RowKit Go.Proofs.YtnjnoabldjodcaaDoorW.PrintWords Go.Proofs.YtnjnoabldjodcaaDoorW.PrintLast Go.Proofs.YtnjnoabldjodcaaDoorW.PrintMore Go.Proofs.YtnjnoabldjodcaaDoor.PFnExactTokens
structure Turned (S : Nat → Prop) (w w' : World) : Prop where
  os : w'.os = w.os
  tape : w'.tape = w.tape
  output : w'.output = w.output
  size : w.heap.size ≤ w'.heap.size
  block : ∀ k, k < w.heap.size → ¬ S k → w'.heap[k]? = w.heap[k]?
section
variable {S S' : Nat → Prop} {w w1 w2 w' : World}
theorem Turned.refl (S : Nat → Prop) (w : World) : Turned S w w := ⟨rfl, rfl, rfl, Nat.le_refl _, fun _ _ _ => rfl⟩
theorem Turned.trans (h : Turned S w w1) (h2 : Turned S w1 w2) : Turned S w w2 :=
  ⟨h2.os.trans h.os, h2.tape.trans h.tape, h2.output.trans h.output, Nat.le_trans h.size h2.size, fun k hk hS => (h2.block k (Nat.lt_of_lt_of_le hk h.size) hS).trans (h.block k hk hS)⟩
theorem Turned.then_ (h : Turned S w w1) (h2 : Turned S' w1 w2) (hS : ∀ k, k < w.heap.size → S' k → S k) : Turned S w w2 :=
  ⟨h2.os.trans h.os, h2.tape.trans h.tape, h2.output.trans h.output, Nat.le_trans h.size h2.size, fun k hk hk2 => (h2.block k (Nat.lt_of_lt_of_le hk h.size) (fun h => hk2 (hS k hk h))).trans (h.block k hk hk2)⟩
theorem Turned.mono (h : Turned S w w') (hS : ∀ k, k < w.heap.size → S k → S' k) : Turned S' w w' := ⟨h.os, h.tape, h.output, h.size, fun k hk hk2 => h.block k hk (fun h => hk2 (hS k hk h))⟩
theorem Turned.below (h : Turned S w w') {B : Nat} (hB : B ≤ w.heap.size) (hS : ∀ k, k < w.heap.size → S k → B ≤ k) : Below B w w' :=
  ⟨h.os, h.tape, h.output, h.size, fun k hk => h.block k (Nat.lt_of_lt_of_le hk hB) (fun hs => by have := hS k (Nat.lt_of_lt_of_le hk hB) hs; omega)⟩
theorem Turned.of_below (h : Below w.heap.size w w') : Turned S w w' := ⟨h.os, h.tape, h.output, h.size, fun k hk _ => h.block k hk⟩
theorem Turned.of_grown {row : Option Nat} (h : w.grownBy w' row) : Turned (fun k => some k = row) w w' := ⟨h.os, h.tape, h.output, h.size, fun k hk hS => h.block k hk hS⟩
theorem Turned.of_set (w : World) (p : Addr) (u : Value) : Turned (fun k => k = p.block) w (w.setCell p u) := ⟨rfl, rfl, rfl, by simp [World.setCell], fun k _ hk => Below.heap_setCell w p u k hk⟩
theorem Turned.put (w : World) (b o : Nat) (u : Value) : Turned (fun k => k = b) w (w.setCell ⟨b, o, none⟩ u) := Turned.of_set w ⟨b, o, none⟩ u
theorem Turned.of_freeze (w : World) (b o : Nat) (n : Nat) : Turned (fun k => k = b) w (w.freeze ⟨b, o, none⟩ n) := by
  unfold World.freeze
  split
  · exact Turned.refl _ _
  · exact ⟨rfl, rfl, rfl, by simp, fun k _ hk => by
      simp only [Array.getElem?_modify]
      rw [if_neg (fun h => hk h.symm)]⟩
end
structure BldT (T o N : Nat) : Prop where
  lies : liesAt Tryd.prog Tryd.prog.depth T (N / Tryd.prog.cellsOf T) o 44 1 = true
  lt : o + 1 < N
theorem bld_own : BldT 44 0 2 := ⟨by kernel_rfl, by decide⟩
theorem bld_scan : BldT 46 2 5 := ⟨by kernel_rfl, by decide⟩
theorem size_builder : (Tryd.prog.info? 44).map (·.size) = some 2 := by kernel_rfl
theorem bld_shape {w : World} {b T : Nat} {cs : Array Value} (hb : w.heap[b]? = some (.cells cs T (0, 0))) : w.shape? b = some (T, cs.size) := by simp [World.shape?, hb]
set_option maxHeartbeats 1000000 in
set_option maxRecDepth 100000 in
theorem check_calls {T o : Nat} {cs : Array Value} (hT : BldT T o cs.size) (b : Nat) (w : World) (hb : w.heap[b]? = some (.cells cs T (0, 0)))
    (h0 : cs[o]? = some (.pointer none) ∨ cs[o]? = some (.pointer (some ⟨b, o, none⟩))) :
    Calls Tryd.prog 64 #[.pointer (some ⟨b, o, none⟩)] w fun e w' => e = .returned (.tuple #[]) ∧ w'.heap[b]? = some (.cells (cs.setIfInBounds o (.pointer (some ⟨b, o, none⟩))) T (0, 0)) ∧ Turned (fun k => k = b) w w' := by
  obtain ⟨j, hj, hjs⟩ := Option.map_eq_some_iff.1 size_builder
  have HB := Aside0.mk hb
  have HT := Aside0.mk hT
  rcases h0 with h0 | h0
  · have c0 : w.cell? ⟨b, o, none⟩ = some (.pointer none) := (blk_cell hb o).trans h0
    have f0 := blk_frozen hb o
    have hsh := bld_shape hb
    have hlt : o < cs.size := by have := hT.lt; omega
    have HSH := Aside0.mk hsh
    have HLT := Aside0.mk hlt
    clear hT hb hsh hlt h0
    go_enter Tryd.func64, Tryd.ntmps64
    go_wp2
    rw [Lib.run_to_unsafe w ⟨b, o, none⟩ Tryd.underlying41 Tryd.underlying95 hj (by rw [hjs]; decide) HSH.out HLT.out]
    simp only [Result.andThen]
    rw [Oper.upon_value]
    go_wp2
    rw [run_callFunc_extern Tryd.func80 (by kernel_rfl) (by kernel_rfl) (by kernel_rfl) (e := Extern.AbiNoEscape.same) (by kernel_rfl)]
    rw [Lib.run_noEscape]
    simp only [Result.andThen]
    rw [Oper.upon_value]
    go_wp2
    rw [Lib.run_from_unsafe w ⟨b, o, none⟩ Tryd.underlying95 Tryd.underlying41 hj HSH.out HT.out.lies]
    simp only [Result.andThen]
    rw [Oper.upon_value]
    go_wp2
    go_end0
    exact ⟨rfl, blk_put HB.out o _ rfl, Turned.put _ _ _ _⟩
  · have c0 : w.cell? ⟨b, o, none⟩ = some (.pointer (some ⟨b, o, none⟩)) := (blk_cell hb o).trans h0
    have H0 := Aside0.mk h0
    clear hT hb h0
    go_enter Tryd.func64, Tryd.ntmps64
    go_wp2
    rw [Lib.run_neq_ptr_same w _ Tryd.underlying41 hj]
    go_wp2
    go_end0
    refine ⟨rfl, ?_, Turned.refl _ _⟩
    rw [HB.out]
    congr 2
    apply Array.ext_getElem?
    intro i
    rw [Array.getElem?_setIfInBounds]
    split
    · rename_i e
      subst e
      split
      · exact H0.out
      · rename_i h; exact absurd H0.out (by rw [Array.getElem?_eq_none (by omega)]; simp)
    · rfl
set_option maxHeartbeats 1000000 in
set_option maxRecDepth 100000 in
theorem len_calls {T o : Nat} {cs : Array Value} (b : Nat) (w : World) (hb : w.heap[b]? = some (.cells cs T (0, 0))) {A : Option Addr} {n c : Nat} (hv : cs[o + 1]? = some (.slice A n c)) :
    Calls Tryd.prog 49 #[.pointer (some ⟨b, o, none⟩)] w fun e w' => e = .returned (.int .i64 n) ∧ w = w' := by
  have c1 : w.cell? ⟨b, o + 1, none⟩ = some (.slice A n c) := (blk_cell hb _).trans hv
  clear hb hv
  go_enter Tryd.func49, Tryd.ntmps49
  go_wp2
  go_ret
  exact ⟨rfl, rfl⟩
set_option maxHeartbeats 1000000 in
set_option maxRecDepth 100000 in
theorem reset_calls {T o : Nat} {cs : Array Value} (hT : BldT T o cs.size) (b : Nat) (w : World) (hb : w.heap[b]? = some (.cells cs T (0, 0))) :
    Calls Tryd.prog 51 #[.pointer (some ⟨b, o, none⟩)] w fun e w' => e = .returned (.tuple #[]) ∧ w'.heap[b]? = some (.cells ((cs.setIfInBounds o (.pointer none)).setIfInBounds (o + 1) (.slice none 0 0)) T (0, 0)) ∧ Turned (fun k => k = b) w w' := by
  have h1 : o < cs.size := by have := hT.lt; omega
  have h2 : o + 1 < cs.size := hT.lt
  obtain ⟨x0, hx0⟩ : ∃ x, cs[o]? = some x := ⟨_, Array.getElem?_eq_getElem h1⟩
  obtain ⟨x1, hx1⟩ : ∃ x, cs[o + 1]? = some x := ⟨_, Array.getElem?_eq_getElem h2⟩
  have c0 : w.cell? ⟨b, o, none⟩ = some x0 := (blk_cell hb _).trans hx0
  have c1 : w.cell? ⟨b, o + 1, none⟩ = some x1 := (blk_cell hb _).trans hx1
  have f0 := blk_frozen hb o
  have f1 := blk_frozen hb (o + 1)
  have HB := Aside0.mk hb
  clear hb hT h1 h2 hx0 hx1
  go_enter Tryd.func51, Tryd.ntmps51
  go_wp2
  go_end0
  exact ⟨rfl, blk_put (blk_put HB.out o _ rfl) (o + 1) _ rfl, (Turned.put _ _ _ _).trans (Turned.put _ _ _ _)⟩
theorem byte_ne {w : World} {base : Nat} {v : Value} {p : Bs} (h : ByteRow w base v p) {b T : Nat} {cs : Array Value} (hb : w.heap[b]? = some (.cells cs T (0, 0))) (hT : T ≠ 5) : some b ≠ v.ownBlock := Kd.R_ne h hb (Ne.symm hT)
theorem byte_lt {w : World} {base : Nat} {v : Value} {p : Bs} (h : ByteRow w base v p) {k : Nat} (hk : v.ownBlock = some k) : base ≤ k ∧ k < w.heap.size := by
  obtain ⟨inner, ho⟩ := Kd.R_own h
  exact ⟨own_base ho k hk, own_lt ho k hk⟩
theorem byte_keep {w w1 : World} {base : Nat} {v : Value} {p : Bs} (h : ByteRow w base v p) (hk : ∀ k, v.ownBlock = some k → w1.heap[k]? = w.heap[k]?) : ByteRow w1 base v p := by
  have ho := Kd.own_of_R h
  exact Kd.R_of_own (h1 := fun _ => rfl) (own_move ho hk) (fun _ _ => trivial)
theorem byte_turned {w w1 : World} {base : Nat} {v : Value} {p : Bs} {S : Nat → Prop} (h : ByteRow w base v p) (ht : Turned S w w1) (hS : ∀ k, v.ownBlock = some k → ¬ S k) : ByteRow w1 base v p :=
  byte_keep h (fun k hk => ht.block k (byte_lt h hk).2 (hS k hk))
theorem set_next {cs : Array Value} {o : Nat} (u : Value) : (cs.setIfInBounds o u)[o + 1]? = cs[o + 1]? := by
  rw [Array.getElem?_setIfInBounds, if_neg (by omega)]
set_option maxHeartbeats 1000000 in
set_option maxRecDepth 100000 in
theorem writeString_calls {T o : Nat} {cs : Array Value} (hT : BldT T o cs.size) (hTu : T ≠ 5) (b : Nat) (w : World) (hb : w.heap[b]? = some (.cells cs T (0, 0)))
    (h0 : cs[o]? = some (.pointer none) ∨ cs[o]? = some (.pointer (some ⟨b, o, none⟩))) {v : Value} (hv : cs[o + 1]? = some v) {base : Nat} {p : Bs} (hr : ByteRow w base v p) (hbase : base ≤ w.heap.size) (s : ByteArray) (hl : p.length + s.size ≤ 140737488355328) :
    Calls Tryd.prog 41 #[.pointer (some ⟨b, o, none⟩), .string s] w fun e w' => ∃ v', e = .returned (.tuple #[.int .i64 s.size, .nilIface]) ∧ w'.heap[b]? = some (.cells ((cs.setIfInBounds o (.pointer (some ⟨b, o, none⟩))).setIfInBounds (o + 1) v') T (0, 0)) ∧ ByteRow w' base v' (p ++ B s) ∧ Turned (fun k => k = b ∨ some k = v.ownBlock) w w' := by
  have HCK := Aside0.mk (check_calls hT b w hb h0)
  have HNE := Aside0.mk (byte_ne hr hb hTu)
  have HT := Aside0.mk hT
  have HV := Aside0.mk hv
  have HR := Aside0.mk hr
  have HB := Aside0.mk hb
  have HBS := Aside0.mk hbase
  clear hT hb h0 hv hr hbase
  go_enter Tryd.func41, Tryd.ntmps41
  go_wp2_with (first | (go_at_call 64; refine HCK.out.mono ?_; rintro e w1 ⟨rfl, hb1, ht1⟩; have HB1 := Aside0.mk hb1; have HT1 := Aside0.mk ht1; have c1 : w1.cell? ⟨b, o + 1, none⟩ = some v := (blk_cell hb1 _).trans ((set_next _).trans HV.out); have HR1 := Aside0.mk (byte_turned HR.out ht1 (fun k hk e => HNE.out (by rw [hk, e]))); have HNE1 := Aside0.mk (byte_ne HR1.out hb1 hTu); have HBS1 := Aside0.mk (Nat.le_trans HBS.out ht1.size); clear hb1 ht1) | (at_builtin; refine print_append_str (w0 := w1) base rfl (.tmp 12) _ 42 9 5 rfl Tryd.underlying42 Tryd.underlying9 info5 v p s rfl rfl (Kd.own_of_R HR1.out) (Below.refl _ _) HBS1.out hl ?_; intro v8 w8 ho8 hb8 hg8; have hq := blk_grown HB1.out hg8 HNE1.out; have c2 : w8.cell? ⟨b, o + 1, none⟩ = some v := (blk_cell hq _).trans ((set_next _).trans HV.out); have f2 := blk_frozen hq (o + 1); have HQ := Aside0.mk hq; have hr8 : ByteRow w8 base v8 (p ++ B s) := Kd.R_of_own (h1 := fun _ => rfl) (ok := fun _ => True) ho8 (fun _ _ => trivial); obtain ⟨A8, c8, e8⟩ := Kd.R_slice hr8; subst e8; generalize (p ++ B s).length = n8 at hr8; have HO := Aside0.mk hr8; have HG := Aside0.mk hg8; clear hb8 hg8 ho8 hq hr8))
  refine bodyPost_ret (v := .tuple #[.int .i64 s.size, .nilIface]) (by simp [results, Tryd.results41, go_sem]) rfl ⟨.slice A8 n8 c8, rfl, blk_put HQ.out (o + 1) _ rfl, ?_, ?_⟩
  · exact byte_keep HO.out (fun k hk => Below.heap_setCell _ _ _ k (fun e => byte_ne HO.out HQ.out hTu (by rw [hk, e])))
  · refine (HT1.out.mono (fun k _ h => Or.inl h)).then_ (((Turned.of_grown HG.out).mono (S' := fun k => k = b ∨ some k = v.ownBlock) (fun k _ h => Or.inr h)).then_ (Turned.put _ _ _ _) (fun k _ h => Or.inl h)) (fun k _ h => h)
set_option maxHeartbeats 1000000 in
set_option maxRecDepth 100000 in
theorem writeByte_calls {T o : Nat} {cs : Array Value} (hT : BldT T o cs.size) (hTu : T ≠ 5) (b : Nat) (w : World) (hb : w.heap[b]? = some (.cells cs T (0, 0)))
    (h0 : cs[o]? = some (.pointer none) ∨ cs[o]? = some (.pointer (some ⟨b, o, none⟩))) {v : Value} (hv : cs[o + 1]? = some v) {base : Nat} {p : Bs} (hr : ByteRow w base v p) (hbase : base ≤ w.heap.size) (x : Int) (hl : p.length + 1 ≤ 140737488355328) :
    Calls Tryd.prog 63 #[.pointer (some ⟨b, o, none⟩), .int .u8 x] w fun e w' => ∃ v', e = .returned .nilIface ∧ w'.heap[b]? = some (.cells ((cs.setIfInBounds o (.pointer (some ⟨b, o, none⟩))).setIfInBounds (o + 1) v') T (0, 0)) ∧ ByteRow w' base v' (p ++ [x]) ∧ Turned (fun k => k = b ∨ some k = v.ownBlock) w w' := by
  have HCK := Aside0.mk (check_calls hT b w hb h0)
  have HNE := Aside0.mk (byte_ne hr hb hTu)
  have HT := Aside0.mk hT
  obtain ⟨A, c, hA⟩ := Kd.R_slice hr
  subst hA
  have HV := Aside0.mk hv
  have HR := Aside0.mk hr
  have HB := Aside0.mk hb
  have HBS := Aside0.mk hbase
  clear hT hb h0 hv hr hbase
  go_enter Tryd.func63, Tryd.ntmps63
  go_wp2_with (first | (go_at_call 64; refine HCK.out.mono ?_; rintro e w1 ⟨rfl, hb1, ht1⟩; have HB1 := Aside0.mk hb1; have HT1 := Aside0.mk ht1; have c1 : w1.cell? ⟨b, o + 1, none⟩ = some (.slice A p.length c) := (blk_cell hb1 _).trans ((set_next _).trans HV.out); have HR1 := Aside0.mk (byte_turned HR.out ht1 (fun k hk e => HNE.out (by rw [hk, e]))); have HNE1 := Aside0.mk (byte_ne HR1.out hb1 hTu); have HBS1 := Aside0.mk (Nat.le_trans HBS.out ht1.size); clear hb1 ht1) | (at_builtin; refine Kd.R_append_row (Value.int .u8) (0 : Int) (h1 := fun _ => rfl) (w0 := w1) base rfl (.tmp 11) (.tmp 13) 42 5 (.int .u8 0) 1 rfl Tryd.underlying42 info5 rfl (by decide) (.slice A p.length c) p [x] (some ⟨w1.heap.size, 0, none⟩) 1 1 (fun _ => True) rfl rfl (fun _ _ => trivial) (Kd.R_below HR1.out (below_one _ _)) (box_C w1 [x] (by simp)) ((Below.refl _ _).alloc HBS1.out _) (Nat.le_trans HBS1.out (below_one _ _).size) (by simp; omega) ?_; intro v8 w8 hr8 hb8 hg8 hm8; have hg9 := hg8; have hq := blk_grown ((Below.heap_alloc _ _ b (blk_lt HB1.out)).trans HB1.out) hg8 HNE1.out; have c2 : w8.cell? ⟨b, o + 1, none⟩ = some (.slice A p.length c) := (blk_cell hq _).trans ((set_next _).trans HV.out); have f2 := blk_frozen hq (o + 1); have HQ := Aside0.mk hq; obtain ⟨A8, c8, e8⟩ := Kd.R_slice hr8; subst e8; generalize (p ++ [x]).length = n8 at hr8; have HO := Aside0.mk hr8; have HG := Aside0.mk hg8; clear hb8 hg8 hg9 hq hr8 hm8))
  go_ret
  refine ⟨.slice A8 n8 c8, rfl, blk_put HQ.out (o + 1) _ rfl, ?_, ?_⟩
  · exact byte_keep HO.out (fun k hk => Below.heap_setCell _ _ _ k (fun e => byte_ne HO.out HQ.out hTu (by rw [hk, e])))
  · refine (HT1.out.mono (fun k _ h => Or.inl h)).then_ ((Turned.of_below (below_one _ _)).then_ (((Turned.of_grown HG.out).mono (S' := fun k => k = b ∨ some k = (Value.slice A p.length c).ownBlock) (fun k _ h => Or.inr h)).then_ (Turned.put _ _ _ _) (fun k _ h => Or.inl h)) (fun k _ h => h)) (fun k _ h => h)
theorem Turned.drew {S : Nat → Prop} {w w' : World} (h : Turned S w w') : Turned S w w'.drew := ⟨h.os, h.tape, h.output, h.size, h.block⟩
theorem S_bytes {p : Bs} (hp : ∀ b ∈ p, byte b) : (S p).data.toList.map (fun b => (b.toNat : Int)) = p := B_S hp
set_option maxHeartbeats 2000000 in
set_option maxRecDepth 100000 in
theorem string_calls {T o : Nat} {cs : Array Value} (b : Nat) (w : World) (hb : w.heap[b]? = some (.cells cs T (0, 0))) {v : Value} (hv : cs[o + 1]? = some v) {base : Nat} {p : Bs} (hr : ByteRow w base v p) (hp : ∀ b ∈ p, byte b) :
    Calls Tryd.prog 50 #[.pointer (some ⟨b, o, none⟩)] w fun e w' => e = .returned (.string (S p)) ∧ Turned (fun k => some k = v.ownBlock) w w' := by
  have HL := Aside0.mk (S_bytes hp)
  have ho := Kd.own_of_R hr
  have hlt := blk_lt hb
  have hcw : ∀ W : World, W.heap[b]? = w.heap[b]? → W.cell? ⟨b, o + 1, none⟩ = some v := fun W hW => (blk_cell (hW.trans hb) _).trans hv
  rcases ho.2 with ⟨rfl, h0⟩ | ⟨g, cap, cur, rfl, hbg, hg, hnc, hcm, hcs, htake⟩
  · have HP := Aside0.mk (List.eq_nil_of_length_eq_zero h0)
    have hUS := fun (W : World) (q : Option Addr) => Lib.run_unsafeString_none (P := Tryd.prog) W 87 3 9 q
    have c1 := hcw w.drew rfl
    have hSD : (Builtin.unsafeSliceData_ #[42] 87 #[.slice none 0 0]).run Tryd.prog w.drew = .ok (.pointer none) w.drew := rfl
    clear hb hv hr hp ho hcw h0
    go_enter Tryd.func50, Tryd.ntmps50
    go_wp2
    go_region
    all_goals (go_wp2; go_ret; exact ⟨by rw [HP.out]; rfl, (Turned.refl _ _).drew⟩)
  · rcases Nat.eq_zero_or_pos p.length with h0 | h0
    · have HP := Aside0.mk (List.eq_nil_of_length_eq_zero h0)
      have hUS := fun (W : World) (q : Option Addr) => Lib.run_unsafeString_none (P := Tryd.prog) W 87 3 9 q
      rw [h0] at hv hcw ⊢
      have c1 := hcw w.drew rfl
      by_cases hc0 : cap = 0
      · subst hc0
        have hSD : (Builtin.unsafeSliceData_ #[42] 87 #[.slice (some ⟨g, 0, none⟩) 0 0]).run Tryd.prog w.drew = .ok (.pointer (some ⟨w.drew.heap.size, 0, none⟩)) (w.drew.alloc (.view ⟨g, 0, none⟩ 5)) :=
          Lib.run_unsafeSliceData_zero w.drew _ _ 5 Tryd.underlying87 ⟨g, 0, none⟩ 0 (5, cur.size) (by have hg' : w.drew.heap[g]? = some (.cells cur 5 (0, 0)) := hg; simp [World.shape?, hg'])
        have c2 := hcw (w.drew.alloc (.view ⟨g, 0, none⟩ 5)) (Below.heap_alloc w _ b hlt)
        have c3 : (w.alloc (.view ⟨g, 0, none⟩ 5)).drew.cell? ⟨b, o + 1, none⟩ = some (.slice (some ⟨g, 0, none⟩) 0 0) := c2
        have c0 := hcw w rfl
        have HT := Aside0.mk (show Turned (fun k => some k = (Value.slice (some ⟨g, 0, none⟩) 0 0).ownBlock) w (w.drew.alloc (.view ⟨g, 0, none⟩ 5)) from Turned.of_below (Below.alloc (Below.drew (Below.refl _ _)) (Nat.le_refl _) _))
        clear hb hv hr hp ho hcw h0 hbg hg hnc hcm hcs htake
        go_enter Tryd.func50, Tryd.ntmps50
        go_wp2
        go_region
        all_goals (go_wp2; go_ret; exact ⟨by rw [HP.out]; rfl, HT.out⟩)
      · have hSD : (Builtin.unsafeSliceData_ #[42] 87 #[.slice (some ⟨g, 0, none⟩) 0 cap]).run Tryd.prog w.drew = .ok (.pointer (some ⟨g, 0, none⟩)) w.drew :=
          Lib.run_unsafeSliceData_row _ _ _ _ _ _ hc0
        clear hb hv hr hp ho hcw h0 hbg hg hnc hcm hcs htake hc0
        go_enter Tryd.func50, Tryd.ntmps50
        go_wp2
        go_region
        all_goals (go_wp2; go_ret; exact ⟨by rw [HP.out]; rfl, (Turned.refl _ _).drew⟩)
    · obtain ⟨l, hl⟩ : ∃ l, l = (S p).data.toList := ⟨_, rfl⟩
      have hlp : l.length = p.length := by have := congrArg List.length HL.out; rw [List.length_map, ← hl] at this; exact this
      have hS : S p = ⟨l.toArray⟩ := by rw [hl]
      have hUS : (Builtin.unsafeString_ #[87, 3] 9 #[.pointer (some ⟨g, 0, none⟩), .int .i64 l.length]).run Tryd.prog w.drew = .ok (.string ⟨l.toArray⟩) (w.drew.freeze ⟨g, 0, none⟩ l.length) := by
        refine Lib.run_unsafeString_row w.drew 87 3 9 5 Tryd.underlying87 (by kernel_rfl) g cur.size (by have hg' : w.drew.heap[g]? = some (.cells cur 5 (0, 0)) := hg; simp [World.shape?, hg']) l (by intro h; rw [h] at hlp; simp at hlp; omega) (by omega) (by unfold maxLen at hcm; omega) ?_
        intro j x hx
        have hpj : p[j]? = some (x.toNat : Int) := by rw [← HL.out, ← hl, List.getElem?_map, hx]; rfl
        exact ho.cells (g := g) rfl j (.int .u8 x.toNat) (by simp [encs, hpj])
      have hSD : (Builtin.unsafeSliceData_ #[42] 87 #[.slice (some ⟨g, 0, none⟩) l.length cap]).run Tryd.prog w.drew = .ok (.pointer (some ⟨g, 0, none⟩)) w.drew :=
        Lib.run_unsafeSliceData_row _ _ _ _ _ _ (by omega)
      have c1 := hcw w.drew rfl
      rw [← hlp] at c1
      have HT := Aside0.mk (show Turned (fun k => some k = (Value.slice (some ⟨g, 0, none⟩) p.length cap).ownBlock) w (w.drew.freeze ⟨g, 0, none⟩ l.length) from ((Turned.refl _ _).drew).trans ((Turned.of_freeze _ _ _ _).mono (fun k _ h => by rw [h]; rfl)))
      have HS := Aside0.mk hS
      clear hb hv hr hp ho hcw h0 hbg hg hnc hcm hcs htake hl hlp hS
      go_enter Tryd.func50, Tryd.ntmps50
      go_wp2
      go_region
      all_goals (go_wp2; go_ret; exact ⟨by rw [HS.out]; rfl, HT.out⟩)
end Go.Proofs.YtnjnoabldjodcaaDoor.Tok
set_option linter.unusedVariables false
set_option linter.unusedSimpArgs false
namespace Go.Proofs.YtnjnoabldjodcaaDoor.Tok
open Go.RowKit Go.Proofs.YtnjnoabldjodcaaDoorW.PrintWords Go.Proofs.YtnjnoabldjodcaaDoorW.PrintLast Go.Proofs.YtnjnoabldjodcaaDoorW.PrintMore Go.Proofs.YtnjnoabldjodcaaDoor.PFnExactTokens
theorem ret_str {a b : ByteArray} (h : a = b) : Ending.returned (.string a) = .returned (.string b) := by rw [h]
structure BldAt (b : Nat) (w wr : World) (a v : Value) (acc : Bs) : Prop where
  blk : wr.heap[b]? = some (.cells #[a, v] 44 (0, 0))
  self : a = .pointer none ∨ a = .pointer (some ⟨b, 0, none⟩)
  row : ByteRow wr b v acc
  below : Below b w wr
section
variable {b : Nat} {w wr w8 : World} {a v v' : Value} {acc acc' : Bs}
theorem BldAt.start (w : World) : BldAt w.heap.size w (w.alloc (.cells #[.pointer none, .slice none 0 0] 44)) (.pointer none) (.slice none 0 0) [] :=
  ⟨heap_alloc_new _ _, .inl rfl, Kd.R_nil _ _ _ _ _, below_one _ _⟩
theorem BldAt.under (h : BldAt b w wr a v acc) (hb : Below wr.heap.size wr w8) : BldAt b w w8 a v acc :=
  ⟨(hb.block b (blk_lt h.blk)).trans h.blk, h.self, Kd.R_below h.row hb, h.below.trans (hb.mono (Nat.le_of_lt (blk_lt h.blk)))⟩
theorem BldAt.next (h : BldAt b w wr a v acc) (h1 : w8.heap[b]? = some (.cells (((#[a, v] : Array Value).setIfInBounds 0 (.pointer (some ⟨b, 0, none⟩))).setIfInBounds (0 + 1) v') 44 (0, 0))) (h2 : ByteRow w8 b v' acc') (h3 : Turned (fun k => k = b ∨ some k = v.ownBlock) wr w8) : BldAt b w w8 (.pointer (some ⟨b, 0, none⟩)) v' acc' :=
  ⟨h1, .inr rfl, h2, h.below.trans (h3.below (Nat.le_of_lt (blk_lt h.blk)) (fun k _ hk => by
    rcases hk with rfl | hk
    · exact Nat.le_refl _
    · exact (byte_lt h.row hk.symm).1))⟩
end
theorem reference_none {attr : Bool} {l : Bs} (h : pre [38] l = false) : reference attr l = ([], 0) := by unfold reference; rw [h]; rfl
theorem refsF_step (attr : Bool) (f : Nat) (b : Int) (l : Bs) : refsF attr (f + 1) (b :: l) = if (reference attr (b :: l)).2 = 0 then b :: refsF attr f l else (reference attr (b :: l)).1 ++ refsF attr f ((b :: l).drop (reference attr (b :: l)).2) := by
  simp only [refsF]
  by_cases h : (reference attr (b :: l)).2 = 0
  · rw [if_pos h, if_neg (by omega)]
  · have hb : b = 38 := by
      apply Classical.byContradiction
      intro hb
      refine h ?_
      rw [reference_none]
      unfold pre
      simpa using hb
    rw [if_neg h, if_pos ⟨hb, by omega⟩]
structure ResAt (s : ByteArray) (attr : Bool) (R : Bs) (i : Nat) (acc : Bs) : Prop where
  le : i ≤ s.size + 200
  out : ∃ f, acc ++ refsF attr f ((B s).drop i) = R ∧ s.size ≤ i + f
  short : acc.length ≤ 4 * i
  bytes : ∀ b ∈ acc, byte b
theorem ResAt.start (s : ByteArray) (attr : Bool) : ResAt s attr (refs attr (B s)) 0 [] := ⟨by omega, ⟨(B s).length, rfl, by rw [B_length]; omega⟩, by simp, by simp⟩
theorem ResAt.done {s : ByteArray} {attr : Bool} {R : Bs} {i : Nat} {acc : Bs} (h : ResAt s attr R i acc) (hi : s.size ≤ i) : acc = R := by
  obtain ⟨f, h1, _⟩ := h.out
  rw [List.drop_eq_nil_of_le (by rw [B_length]; exact hi), refsF_nil, List.append_nil] at h1
  exact h1
theorem ResAt.step {s : ByteArray} {attr : Bool} {R : Bs} {i : Nat} {acc : Bs} (h : ResAt s attr R i acc) (hi : i < s.size) :
    ((reference attr ((B s).drop i)).2 = 0 → ResAt s attr R (i + 1) (acc ++ [bt s (i : Int)])) ∧ ((reference attr ((B s).drop i)).2 ≠ 0 → ResAt s attr R (i + (reference attr ((B s).drop i)).2) (acc ++ (reference attr ((B s).drop i)).1)) := by
  obtain ⟨f, h1, h2⟩ := h.out
  have hl : i < (B s).length := by rw [B_length]; exact hi
  have hg := B_get s i hi
  rw [List.getElem?_eq_getElem hl] at hg
  injection hg with hg
  have hdr : (B s).drop i = bt s (i : Int) :: (B s).drop (i + 1) := by rw [List.drop_eq_getElem_cons hl, hg]
  obtain ⟨f, rfl⟩ : ∃ g, f = g + 1 := ⟨f - 1, by omega⟩
  have hsm := reference_small attr ((B s).drop i)
  rw [List.length_drop, B_length] at hsm
  have hst := refsF_step attr f (bt s (i : Int)) ((B s).drop (i + 1))
  rw [← hdr] at hst
  rw [hst] at h1
  refine ⟨fun h0 => ?_, fun h0 => ?_⟩
  · rw [if_pos h0] at h1
    refine ⟨by omega, ⟨f, ?_, by omega⟩, by have := h.short; simp; omega, fun b hb => ?_⟩
    · rw [← h1]; simp
    · rcases List.mem_append.1 hb with hb | hb
      · exact h.bytes b hb
      · rw [List.mem_singleton.1 hb]; exact bt_range s (i : Int)
  · rw [if_neg h0, List.drop_drop] at h1
    refine ⟨by omega, ⟨f, ?_, by omega⟩, ?_, fun b hb => ?_⟩
    · rw [← h1, List.append_assoc]
    · have := h.short
      have := hsm.1
      rw [List.length_append]
      omega
    · rcases List.mem_append.1 hb with hb | hb
      · exact h.bytes b hb
      · exact hsm.2.1 b hb
set_option maxHeartbeats 4000000 in
set_option maxRecDepth 100000 in
theorem resolved_calls (s : ByteArray) (hs : s.size < 2 ^ 40) (attr : Bool) (w : World) (hR : Refs w) :
    Calls Tryd.prog 40 #[.string s, .bool attr] w fun e w' => e = .returned (.string (S (refs attr (B s)))) ∧ Below w.heap.size w w' := by
  have HREF := Aside0.mk hR
  have HS := Aside0.mk hs
  clear hR
  go_enter Tryd.func40, Tryd.ntmps40
  go_upto_region 3 with (fail)
  have HST := Aside0.mk (BldAt.start w)
  generalize hw1 : World.alloc _ _ = w1
  rw [hw1] at HST
  generalize hbn : w.heap.size = bn at HST ⊢
  have HBE := Aside0.mk hbn
  have HRB := Aside0.mk (show 0 < bn from hbn ▸ HREF.out.pos)
  clear hw1 hbn
  obtain ⟨R, hR⟩ : ∃ R, R = refs attr (B s) := ⟨_, rfl⟩
  have HRS := Aside0.mk hR
  clear hR
  go_loopg [6] (s.size + 300) (fun kq v6 wr => ∃ (i : Nat) (a v : Value) (acc : Bs), v6 = .int .i64 i ∧ Aside0 (BldAt bn w wr a v acc) ∧ Aside0 (ResAt s attr R i acc ∧ s.size + 299 < i + kq))
  case atStart => exact ⟨0, _, _, [], rfl, HST, ⟨by rw [HRS.out]; exact ResAt.start s attr, by omega⟩⟩
  case round =>
    obtain ⟨i, a, v, acc, rfl, HB, HA⟩ := hrel
    by_cases hi : i < s.size
    · obtain ⟨g, rfl⟩ : ∃ g, gk = g + 1 := ⟨gk - 1, by have := HA.out.1.le; have := HA.out.2; omega⟩
      have hd : decide (i < s.size) = true := decide_eq_true hi
      have hii : (i : Int) < (s.size : Int) := by omega
      have hsz : (s.size : Int) ≤ 1099511627776 := by omega
      have hx := bt_at s (i : Int)
      rw [Int.toNat_natCast] at hx
      have HI := Aside0.mk hi
      have HRC := Aside0.mk (fun W (hW : Refs W) => ireference_calls s hs i hi attr W hW)
      have HSTEP := Aside0.mk (HA.out.1.step hi)
      obtain ⟨q, hq⟩ : ∃ q, q = reference attr ((B s).drop i) := ⟨_, rfl⟩
      rw [← hq] at HRC HSTEP
      have hqn : (q.2 : Int) ≤ 1099511628000 := by have h := (reference_small attr ((B s).drop i)).2.2; rw [← hq, List.length_drop, B_length] at h; omega
      have HQL := Aside0.mk (show q.1.length ≤ 4 by have h := (reference_small attr ((B s).drop i)).1; rw [← hq] at h; exact h)
      have HQB := Aside0.mk (show ∀ b ∈ q.1, byte b by have h := (reference_small attr ((B s).drop i)).2.1; rw [← hq] at h; exact h)
      obtain ⟨t, n⟩ := q
      simp only at HRC HSTEP hqn HQL HQB
      clear hi hq hs
      by_cases hn : n = 0
      · subst hn
        have HN := Aside0.mk (HSTEP.out.1 rfl)
        clear HSTEP hqn
        go_wp2_with (first | (go_at_call 62; refine (HRC.out _ (HREF.out.below HB.out.below HRB.out)).mono ?_; rintro e w8 ⟨rfl, hb8⟩; have HB8 := Aside0.mk (HB.out.under hb8); clear hb8) | (go_at_call 63; refine (writeByte_calls (cs := #[a, v]) bld_own (by decide) bn _ HB8.out.blk (by rcases HB8.out.self with h | h; exact .inl (by rw [h]; rfl); exact .inr (by rw [h]; rfl)) rfl HB8.out.row (Nat.le_of_lt (blk_lt HB8.out.blk)) (bt s (i : Int)) (by have := HA.out.1.short; have := HI.out; have := HS.out; omega)).mono ?_; rintro e w9 ⟨v9, rfl, h1, h2, h3⟩; have HB9 := Aside0.mk (HB8.out.next h1 h2 h3); clear h1 h2 h3))
        go_roundg g
        case measure => omega
        case rel => exact ⟨i + 1, _, _, _, rfl, HB9, ⟨HN.out, by have := HA.out.2; omega⟩⟩
      · have hn1 : (n == 0) = false := by rw [beq_eq_false_iff_ne]; exact hn
        have hn2 : ((n : Int) == 0) = false := by rw [beq_eq_false_iff_ne]; omega
        have HN := Aside0.mk (HSTEP.out.2 hn)
        have HN0 := Aside0.mk hn
        clear HSTEP hn
        go_wp2_with (first | (go_at_call 62; refine (HRC.out _ (HREF.out.below HB.out.below HRB.out)).mono ?_; rintro e w8 ⟨rfl, hb8⟩; have HB8 := Aside0.mk (HB.out.under hb8); clear hb8) | (go_at_call 41; refine (writeString_calls (cs := #[a, v]) bld_own (by decide) bn _ HB8.out.blk (by rcases HB8.out.self with h | h; exact .inl (by rw [h]; rfl); exact .inr (by rw [h]; rfl)) rfl HB8.out.row (Nat.le_of_lt (blk_lt HB8.out.blk)) (S t) (by rw [S_size]; have := HA.out.1.short; have := HQL.out; have := HI.out; have := HS.out; omega)).mono ?_; rintro e w9 ⟨v9, rfl, h1, h2, h3⟩; rw [B_S HQB.out] at h2; have HB9 := Aside0.mk (HB8.out.next h1 h2 h3); clear h1 h2 h3))
        go_roundg g
        case measure => omega
        case rel => exact ⟨i + n, _, _, _, by rfl, HB9, ⟨HN.out, by have := HA.out.2; have := HN0.out; omega⟩⟩
    · have hd : decide (i < s.size) = false := decide_eq_false hi
      have HE := Aside0.mk (HA.out.1.done (by omega))
      have hii : (s.size : Int) ≤ (i : Int) := by omega
      clear hi hs
      go_wp2_with ((go_at_call 50; refine (string_calls (cs := #[a, v]) (o := 0) bn _ HB.out.blk rfl HB.out.row HA.out.1.bytes).mono ?_; rintro e w9 ⟨rfl, h1⟩; have HT := Aside0.mk h1; clear h1))
      go_ret
      refine ⟨ret_str (by rw [HE.out, HRS.out]), ?_⟩
      rw [HBE.out]
      exact HB.out.below.trans (HT.out.below (Nat.le_of_lt (blk_lt HB.out.blk)) (fun k _ hk => (byte_lt HB.out.row hk.symm).1))
end Go.Proofs.YtnjnoabldjodcaaDoor.Tok
set_option linter.unusedVariables false
set_option linter.unusedSimpArgs false
namespace Go.Proofs.YtnjnoabldjodcaaDoor.Tok
open Go.RowKit Go.Proofs.YtnjnoabldjodcaaDoorW.PrintWords Go.Proofs.YtnjnoabldjodcaaDoorW.PrintLast Go.Proofs.YtnjnoabldjodcaaDoorW.PrintMore Go.Proofs.YtnjnoabldjodcaaDoor.PFnExactTokens
def Sc (w : World) (b : Nat) (s : ByteArray) (i : Nat) (x2 x3 x4 : Value) : Prop := w.heap[b]? = some (.cells #[.string s, .int .i64 i, x2, x3, x4] 46 (0, 0))
section
variable {w w1 w' : World} {b : Nat} {s : ByteArray} {i j : Nat} {x2 x3 x4 : Value}
theorem Sc.lt (h : Sc w b s i x2 x3 x4) : b < w.heap.size := blk_lt h
theorem Sc.c0 (h : Sc w b s i x2 x3 x4) : w.cell? ⟨b, 0, none⟩ = some (.string s) := blk_cell h 0
theorem Sc.c1 (h : Sc w b s i x2 x3 x4) : w.cell? ⟨b, 1, none⟩ = some (.int .i64 i) := blk_cell h 1
theorem Sc.f1 (h : Sc w b s i x2 x3 x4) : w.frozen? ⟨b, 1, none⟩ = false := blk_frozen h 1
theorem Sc.drewN (h : Sc w b s i x2 x3 x4) (n : Nat) : Sc (w.drewN n) b s i x2 x3 x4 := h
theorem Sc.at_ (h : Sc w b s i x2 x3 x4) (j : Nat) : Sc (w.setCell ⟨b, 1, none⟩ (.int .i64 j)) b s j x2 x3 x4 := blk_put h 1 _ rfl
theorem Sc.turned {S : Nat → Prop} (h : Sc w b s i x2 x3 x4) (ht : Turned S w w') (hS : ¬ S b) : Sc w' b s i x2 x3 x4 := (ht.block b h.lt hS).trans h
end
theorem Turned.drewN {S : Nat → Prop} {w w' : World} (h : Turned S w w') (n : Nat) : Turned S w (w'.drewN n) := ⟨h.os, h.tape, h.output, h.size, h.block⟩
theorem Turned.at_ {b : Nat} {w w' : World} (h : Turned (fun k => k = b) w w') (o : Nat) (u : Value) : Turned (fun k => k = b) w (w'.setCell ⟨b, o, none⟩ u) := h.trans (Turned.put _ _ _ _)
theorem sp_step {s : ByteArray} {p : Int → Bool} {i : Nat} (hi : i < s.size) : i + sp p ((B s).drop i) = if p (bt s (i : Int)) = true then i + 1 + sp p ((B s).drop (i + 1)) else i := by
  have hl : i < (B s).length := by rw [B_length]; exact hi
  have hg := B_get s i hi
  rw [List.getElem?_eq_getElem hl] at hg
  injection hg with hg
  rw [List.drop_eq_getElem_cons hl, hg]
  simp only [sp]
  split <;> omega
theorem sp_end {s : ByteArray} {p : Int → Bool} {i : Nat} (hi : s.size ≤ i) : i + sp p ((B s).drop i) = i := by
  rw [List.drop_eq_nil_of_le (by rw [B_length]; exact hi)]
  rfl
set_option maxHeartbeats 4000000 in
set_option maxRecDepth 100000 in
theorem white_calls (s : ByteArray) (hs : s.size < 2 ^ 40) (b i : Nat) (hi : i ≤ s.size) (x2 x3 x4 : Value) (w : World) (hb : Sc w b s i x2 x3 x4) :
    Calls Tryd.prog 67 #[.pointer (some ⟨b, 0, none⟩)] w fun e w' => e = .returned (.tuple #[]) ∧ Sc w' b s (ov (B s) i) x2 x3 x4 ∧ Turned (fun k => k = b) w w' := by
  obtain ⟨J, hJ⟩ : ∃ J, J = ov (B s) i := ⟨_, rfl⟩
  rw [← hJ]
  have HJ := Aside0.mk hJ
  have HB := Aside0.mk hb
  have HS := Aside0.mk hs
  have HI := Aside0.mk hi
  clear hJ hb hs hi
  go_enter Tryd.func67, Tryd.ntmps67
  go_wp2
  go_loopg [] (s.size + 1) (fun kq wr => ∃ (j : Nat), Aside0 (Sc wr b s j x2 x3 x4) ∧ Aside0 (ov (B s) j = J ∧ j ≤ s.size ∧ s.size < j + kq) ∧ Aside0 (Turned (fun k => k = b) w wr))
  case atStart => exact ⟨i, HB, ⟨HJ.out.symm, HI.out, by omega⟩, ⟨Turned.refl _ _⟩⟩
  case round =>
    obtain ⟨j, HC, HQ, HT⟩ := hrel
    have c0 := HC.out.c0
    have c1 := HC.out.c1
    have f1 := HC.out.f1
    by_cases hj : j < s.size
    · obtain ⟨g, rfl⟩ : ∃ g, gk = g + 1 := ⟨gk - 1, by have := HQ.out.2.2; omega⟩
      have hd : decide (j < s.size) = true := decide_eq_true hj
      have hjj : (j : Int) < (s.size : Int) := by omega
      have hjs : (j : Int) < 1099511627776 := by have := HS.out; omega
      have hx := bt_at s (j : Int)
      rw [Int.toNat_natCast] at hx
      have hst := sp_step (p := white) hj
      rcases hw : white (bt s (j : Int)) with _ | _
      · have HW := Aside0.mk (fun W => (iwhite_calls (bt s (j : Int)) W).mono (fun e w' (h : e = _ ∧ W = w') => (⟨by rw [h.1, hw], h.2.symm⟩ : e = .returned (.bool false) ∧ w' = W)))
        have HE := Aside0.mk (show j = J by have := HQ.out.1; unfold ov at this; rw [hst, hw] at this; exact this)
        clear hst hw hj
        go_wp2
        go_quiet ((go_at_call 61; exact Calls.quiet_of_same (HW.out _)))
        go_wp2
        go_end0
        exact ⟨rfl, by rw [← HE.out]; exact HC.out.drewN _, HT.out.drewN _⟩
      · have HW := Aside0.mk (fun W => (iwhite_calls (bt s (j : Int)) W).mono (fun e w' (h : e = _ ∧ W = w') => (⟨by rw [h.1, hw], h.2.symm⟩ : e = .returned (.bool true) ∧ w' = W)))
        have HE := Aside0.mk (show ov (B s) (j + 1) = J by have := HQ.out.1; unfold ov at this ⊢; rw [hst, hw] at this; exact this)
        have HJ1 := Aside0.mk hj
        clear hst hw hj
        go_wp2
        go_quiet ((go_at_call 61; exact Calls.quiet_of_same (HW.out _)))
        go_wp2
        go_roundg g
        case measure => omega
        case rel => exact ⟨j + 1, ⟨HC.out.at_ (j + 1)⟩, ⟨HE.out, HJ1.out, by have := HQ.out.2.2; omega⟩, ⟨(HT.out.at_ _ _).drewN _⟩⟩
    · have hd : decide (j < s.size) = false := decide_eq_false hj
      have HE := Aside0.mk (show j = J by have := HQ.out.1; unfold ov at this; rw [sp_end (by omega)] at this; exact this)
      clear hj
      go_wp2
      go_quiet (fail)
      go_wp2
      go_end0
      exact ⟨rfl, by rw [← HE.out]; exact HC.out.drewN _, HT.out.drewN _⟩
set_option maxHeartbeats 4000000 in
set_option maxRecDepth 100000 in
theorem until_name (s : ByteArray) (hs : s.size < 2 ^ 40) (b i : Nat) (hi : i ≤ s.size) (x2 x3 x4 : Value) (w : World) (hb : Sc w b s i x2 x3 x4) (p : Int → Bool) (hp : ∀ x W, Turned (fun k => k = b) w W → Calls Tryd.prog 39 #[.int .u8 x] W fun e w' => e = .returned (.bool (p x)) ∧ W = w') :
    Calls Tryd.prog 66 #[.pointer (some ⟨b, 0, none⟩), .func (.func 39) #[] #[]] w fun e w' => e = .returned (.string (S (part (B s) i (i + sp (fun x => !p x) ((B s).drop i))))) ∧ Sc w' b s (i + sp (fun x => !p x) ((B s).drop i)) x2 x3 x4 ∧ Turned (fun k => k = b) w w' := by
  obtain ⟨J, hJ⟩ : ∃ J, J = i + sp (fun x => !p x) ((B s).drop i) := ⟨_, rfl⟩
  rw [← hJ]
  have HJ := Aside0.mk hJ
  have HJ1 := Aside0.mk (show J ≤ s.size by rw [hJ, ← B_length]; exact sp_to (by rw [B_length]; exact hi))
  have HJ2 := Aside0.mk (show i ≤ J by rw [hJ]; exact Nat.le_add_right _ _)
  have HPC := Aside0.mk hp
  have HB := Aside0.mk hb
  have HS := Aside0.mk hs
  have HI := Aside0.mk hi
  have c1 := hb.c1
  clear hJ hb hs hi hp
  go_enter Tryd.func66, Tryd.ntmps66
  go_wp2
  clear c1
  go_loopg [] (s.size + 1) (fun kq wr => ∃ (j : Nat), Aside0 (Sc wr b s j x2 x3 x4) ∧ Aside0 (j + sp (fun x => !p x) ((B s).drop j) = J ∧ j ≤ s.size ∧ s.size < j + kq) ∧ Aside0 (Turned (fun k => k = b) w wr))
  case atStart => exact ⟨i, HB, ⟨HJ.out.symm, HI.out, by omega⟩, ⟨Turned.refl _ _⟩⟩
  case round =>
    obtain ⟨j, HC, HQ, HT⟩ := hrel
    have c0 := HC.out.c0
    have c1 := HC.out.c1
    have f1 := HC.out.f1
    by_cases hj : j < s.size
    · obtain ⟨g, rfl⟩ : ∃ g, gk = g + 1 := ⟨gk - 1, by have := HQ.out.2.2; omega⟩
      have hd : decide (j < s.size) = true := decide_eq_true hj
      have hjj : (j : Int) < (s.size : Int) := by omega
      have hjs : (j : Int) < 1099511627776 := by have := HS.out; omega
      have hx := bt_at s (j : Int)
      rw [Int.toNat_natCast] at hx
      have hst := sp_step (p := fun x => !p x) hj
      rcases hw : p (bt s (j : Int)) with _ | _
      · have HW := Aside0.mk (fun W (hW : Turned (fun k => k = b) w W) => (HPC.out (bt s (j : Int)) W hW).mono (fun e w' (h : e = _ ∧ W = w') => (⟨by rw [h.1, hw], h.2.symm⟩ : e = .returned (.bool false) ∧ w' = W)))
        have HE := Aside0.mk (show j + 1 + sp (fun x => !p x) ((B s).drop (j + 1)) = J by have := HQ.out.1; rw [hst, hw] at this; exact this)
        have HJ1 := Aside0.mk hj
        clear hst hw hj
        go_wp2
        go_quiet ((exact Calls.quiet_of_same (HW.out _ (HT.out.drewN _))))
        go_wp2
        go_roundg g
        case measure => omega
        case rel => exact ⟨j + 1, ⟨HC.out.at_ (j + 1)⟩, ⟨HE.out, HJ1.out, by have := HQ.out.2.2; omega⟩, ⟨(HT.out.at_ _ _).drewN _⟩⟩
      · have HW := Aside0.mk (fun W (hW : Turned (fun k => k = b) w W) => (HPC.out (bt s (j : Int)) W hW).mono (fun e w' (h : e = _ ∧ W = w') => (⟨by rw [h.1, hw], h.2.symm⟩ : e = .returned (.bool true) ∧ w' = W)))
        have HE := Aside0.mk (show j = J by have := HQ.out.1; rw [hst, hw] at this; exact this)
        clear hst hw hj
        go_wp2
        go_quiet ((exact Calls.quiet_of_same (HW.out _ (HT.out.drewN _))))
        go_wp2
        have hij : (i : Int) ≤ (j : Int) := by have := HJ2.out; have := HE.out; omega
        have hjz : (j : Int) ≤ (s.size : Int) := by have := HJ1.out; have := HE.out; omega
        go_quiet (fail)
        go_wp2
        go_ret
        exact ⟨ret_str (by rw [← HE.out, ← part_f]), by rw [← HE.out]; exact (HC.out.drewN _).drewN _, (HT.out.drewN _).drewN _⟩
    · have hd : decide (j < s.size) = false := decide_eq_false hj
      have HE := Aside0.mk (show j = J by have := HQ.out.1; rw [sp_end (by omega)] at this; exact this)
      have hij : (i : Int) ≤ (j : Int) := by have := HJ2.out; have := HE.out; omega
      have hjz : (j : Int) ≤ (s.size : Int) := by have := HJ1.out; have := HE.out; omega
      clear hj
      go_wp2
      go_quiet (fail)
      go_wp2
      go_quiet (fail)
      go_wp2
      go_ret
      exact ⟨ret_str (by rw [← HE.out, ← part_f]), by rw [← HE.out]; exact (HC.out.drewN _).drewN _, (HT.out.drewN _).drewN _⟩
set_option maxHeartbeats 4000000 in
set_option maxRecDepth 100000 in
theorem until_attr (s : ByteArray) (hs : s.size < 2 ^ 40) (b i : Nat) (hi : i ≤ s.size) (x2 x3 x4 : Value) (w : World) (hb : Sc w b s i x2 x3 x4) (p : Int → Bool) (hp : ∀ x W, Turned (fun k => k = b) w W → Calls Tryd.prog 81 #[.int .u8 x] W fun e w' => e = .returned (.bool (p x)) ∧ W = w') :
    Calls Tryd.prog 66 #[.pointer (some ⟨b, 0, none⟩), .func (.func 81) #[] #[]] w fun e w' => e = .returned (.string (S (part (B s) i (i + sp (fun x => !p x) ((B s).drop i))))) ∧ Sc w' b s (i + sp (fun x => !p x) ((B s).drop i)) x2 x3 x4 ∧ Turned (fun k => k = b) w w' := by
  obtain ⟨J, hJ⟩ : ∃ J, J = i + sp (fun x => !p x) ((B s).drop i) := ⟨_, rfl⟩
  rw [← hJ]
  have HJ := Aside0.mk hJ
  have HJ1 := Aside0.mk (show J ≤ s.size by rw [hJ, ← B_length]; exact sp_to (by rw [B_length]; exact hi))
  have HJ2 := Aside0.mk (show i ≤ J by rw [hJ]; exact Nat.le_add_right _ _)
  have HPC := Aside0.mk hp
  have HB := Aside0.mk hb
  have HS := Aside0.mk hs
  have HI := Aside0.mk hi
  have c1 := hb.c1
  clear hJ hb hs hi hp
  go_enter Tryd.func66, Tryd.ntmps66
  go_wp2
  clear c1
  go_loopg [] (s.size + 1) (fun kq wr => ∃ (j : Nat), Aside0 (Sc wr b s j x2 x3 x4) ∧ Aside0 (j + sp (fun x => !p x) ((B s).drop j) = J ∧ j ≤ s.size ∧ s.size < j + kq) ∧ Aside0 (Turned (fun k => k = b) w wr))
  case atStart => exact ⟨i, HB, ⟨HJ.out.symm, HI.out, by omega⟩, ⟨Turned.refl _ _⟩⟩
  case round =>
    obtain ⟨j, HC, HQ, HT⟩ := hrel
    have c0 := HC.out.c0
    have c1 := HC.out.c1
    have f1 := HC.out.f1
    by_cases hj : j < s.size
    · obtain ⟨g, rfl⟩ : ∃ g, gk = g + 1 := ⟨gk - 1, by have := HQ.out.2.2; omega⟩
      have hd : decide (j < s.size) = true := decide_eq_true hj
      have hjj : (j : Int) < (s.size : Int) := by omega
      have hjs : (j : Int) < 1099511627776 := by have := HS.out; omega
      have hx := bt_at s (j : Int)
      rw [Int.toNat_natCast] at hx
      have hst := sp_step (p := fun x => !p x) hj
      rcases hw : p (bt s (j : Int)) with _ | _
      · have HW := Aside0.mk (fun W (hW : Turned (fun k => k = b) w W) => (HPC.out (bt s (j : Int)) W hW).mono (fun e w' (h : e = _ ∧ W = w') => (⟨by rw [h.1, hw], h.2.symm⟩ : e = .returned (.bool false) ∧ w' = W)))
        have HE := Aside0.mk (show j + 1 + sp (fun x => !p x) ((B s).drop (j + 1)) = J by have := HQ.out.1; rw [hst, hw] at this; exact this)
        have HJ1 := Aside0.mk hj
        clear hst hw hj
        go_wp2
        go_quiet ((exact Calls.quiet_of_same (HW.out _ (HT.out.drewN _))))
        go_wp2
        go_roundg g
        case measure => omega
        case rel => exact ⟨j + 1, ⟨HC.out.at_ (j + 1)⟩, ⟨HE.out, HJ1.out, by have := HQ.out.2.2; omega⟩, ⟨(HT.out.at_ _ _).drewN _⟩⟩
      · have HW := Aside0.mk (fun W (hW : Turned (fun k => k = b) w W) => (HPC.out (bt s (j : Int)) W hW).mono (fun e w' (h : e = _ ∧ W = w') => (⟨by rw [h.1, hw], h.2.symm⟩ : e = .returned (.bool true) ∧ w' = W)))
        have HE := Aside0.mk (show j = J by have := HQ.out.1; rw [hst, hw] at this; exact this)
        clear hst hw hj
        go_wp2
        go_quiet ((exact Calls.quiet_of_same (HW.out _ (HT.out.drewN _))))
        go_wp2
        have hij : (i : Int) ≤ (j : Int) := by have := HJ2.out; have := HE.out; omega
        have hjz : (j : Int) ≤ (s.size : Int) := by have := HJ1.out; have := HE.out; omega
        go_quiet (fail)
        go_wp2
        go_ret
        exact ⟨ret_str (by rw [← HE.out, ← part_f]), by rw [← HE.out]; exact (HC.out.drewN _).drewN _, (HT.out.drewN _).drewN _⟩
    · have hd : decide (j < s.size) = false := decide_eq_false hj
      have HE := Aside0.mk (show j = J by have := HQ.out.1; rw [sp_end (by omega)] at this; exact this)
      have hij : (i : Int) ≤ (j : Int) := by have := HJ2.out; have := HE.out; omega
      have hjz : (j : Int) ≤ (s.size : Int) := by have := HJ1.out; have := HE.out; omega
      clear hj
      go_wp2
      go_quiet (fail)
      go_wp2
      go_quiet (fail)
      go_wp2
      go_ret
      exact ⟨ret_str (by rw [← HE.out, ← part_f]), by rw [← HE.out]; exact (HC.out.drewN _).drewN _, (HT.out.drewN _).drewN _⟩
set_option maxHeartbeats 4000000 in
set_option maxRecDepth 100000 in
theorem until_val (s : ByteArray) (hs : s.size < 2 ^ 40) (b i : Nat) (hi : i ≤ s.size) (x2 x3 x4 : Value) (w : World) (hb : Sc w b s i x2 x3 x4) (p : Int → Bool) (hp : ∀ x W, Turned (fun k => k = b) w W → Calls Tryd.prog 88 #[.int .u8 x] W fun e w' => e = .returned (.bool (p x)) ∧ W = w') :
    Calls Tryd.prog 66 #[.pointer (some ⟨b, 0, none⟩), .func (.func 88) #[] #[]] w fun e w' => e = .returned (.string (S (part (B s) i (i + sp (fun x => !p x) ((B s).drop i))))) ∧ Sc w' b s (i + sp (fun x => !p x) ((B s).drop i)) x2 x3 x4 ∧ Turned (fun k => k = b) w w' := by
  obtain ⟨J, hJ⟩ : ∃ J, J = i + sp (fun x => !p x) ((B s).drop i) := ⟨_, rfl⟩
  rw [← hJ]
  have HJ := Aside0.mk hJ
  have HJ1 := Aside0.mk (show J ≤ s.size by rw [hJ, ← B_length]; exact sp_to (by rw [B_length]; exact hi))
  have HJ2 := Aside0.mk (show i ≤ J by rw [hJ]; exact Nat.le_add_right _ _)
  have HPC := Aside0.mk hp
  have HB := Aside0.mk hb
  have HS := Aside0.mk hs
  have HI := Aside0.mk hi
  have c1 := hb.c1
  clear hJ hb hs hi hp
  go_enter Tryd.func66, Tryd.ntmps66
  go_wp2
  clear c1
  go_loopg [] (s.size + 1) (fun kq wr => ∃ (j : Nat), Aside0 (Sc wr b s j x2 x3 x4) ∧ Aside0 (j + sp (fun x => !p x) ((B s).drop j) = J ∧ j ≤ s.size ∧ s.size < j + kq) ∧ Aside0 (Turned (fun k => k = b) w wr))
  case atStart => exact ⟨i, HB, ⟨HJ.out.symm, HI.out, by omega⟩, ⟨Turned.refl _ _⟩⟩
  case round =>
    obtain ⟨j, HC, HQ, HT⟩ := hrel
    have c0 := HC.out.c0
    have c1 := HC.out.c1
    have f1 := HC.out.f1
    by_cases hj : j < s.size
    · obtain ⟨g, rfl⟩ : ∃ g, gk = g + 1 := ⟨gk - 1, by have := HQ.out.2.2; omega⟩
      have hd : decide (j < s.size) = true := decide_eq_true hj
      have hjj : (j : Int) < (s.size : Int) := by omega
      have hjs : (j : Int) < 1099511627776 := by have := HS.out; omega
      have hx := bt_at s (j : Int)
      rw [Int.toNat_natCast] at hx
      have hst := sp_step (p := fun x => !p x) hj
      rcases hw : p (bt s (j : Int)) with _ | _
      · have HW := Aside0.mk (fun W (hW : Turned (fun k => k = b) w W) => (HPC.out (bt s (j : Int)) W hW).mono (fun e w' (h : e = _ ∧ W = w') => (⟨by rw [h.1, hw], h.2.symm⟩ : e = .returned (.bool false) ∧ w' = W)))
        have HE := Aside0.mk (show j + 1 + sp (fun x => !p x) ((B s).drop (j + 1)) = J by have := HQ.out.1; rw [hst, hw] at this; exact this)
        have HJ1 := Aside0.mk hj
        clear hst hw hj
        go_wp2
        go_quiet ((exact Calls.quiet_of_same (HW.out _ (HT.out.drewN _))))
        go_wp2
        go_roundg g
        case measure => omega
        case rel => exact ⟨j + 1, ⟨HC.out.at_ (j + 1)⟩, ⟨HE.out, HJ1.out, by have := HQ.out.2.2; omega⟩, ⟨(HT.out.at_ _ _).drewN _⟩⟩
      · have HW := Aside0.mk (fun W (hW : Turned (fun k => k = b) w W) => (HPC.out (bt s (j : Int)) W hW).mono (fun e w' (h : e = _ ∧ W = w') => (⟨by rw [h.1, hw], h.2.symm⟩ : e = .returned (.bool true) ∧ w' = W)))
        have HE := Aside0.mk (show j = J by have := HQ.out.1; rw [hst, hw] at this; exact this)
        clear hst hw hj
        go_wp2
        go_quiet ((exact Calls.quiet_of_same (HW.out _ (HT.out.drewN _))))
        go_wp2
        have hij : (i : Int) ≤ (j : Int) := by have := HJ2.out; have := HE.out; omega
        have hjz : (j : Int) ≤ (s.size : Int) := by have := HJ1.out; have := HE.out; omega
        go_quiet (fail)
        go_wp2
        go_ret
        exact ⟨ret_str (by rw [← HE.out, ← part_f]), by rw [← HE.out]; exact (HC.out.drewN _).drewN _, (HT.out.drewN _).drewN _⟩
    · have hd : decide (j < s.size) = false := decide_eq_false hj
      have HE := Aside0.mk (show j = J by have := HQ.out.1; rw [sp_end (by omega)] at this; exact this)
      have hij : (i : Int) ≤ (j : Int) := by have := HJ2.out; have := HE.out; omega
      have hjz : (j : Int) ≤ (s.size : Int) := by have := HJ1.out; have := HE.out; omega
      clear hj
      go_wp2
      go_quiet (fail)
      go_wp2
      go_quiet (fail)
      go_wp2
      go_ret
      exact ⟨ret_str (by rw [← HE.out, ← part_f]), by rw [← HE.out]; exact (HC.out.drewN _).drewN _, (HT.out.drewN _).drewN _⟩
set_option maxHeartbeats 4000000 in
set_option maxRecDepth 100000 in
theorem until_gt (s : ByteArray) (hs : s.size < 2 ^ 40) (b i : Nat) (hi : i ≤ s.size) (x2 x3 x4 : Value) (w : World) (hb : Sc w b s i x2 x3 x4) (p : Int → Bool) (hp : ∀ x W, Turned (fun k => k = b) w W → Calls Tryd.prog 74 #[.int .u8 x] W fun e w' => e = .returned (.bool (p x)) ∧ W = w') :
    Calls Tryd.prog 66 #[.pointer (some ⟨b, 0, none⟩), .func (.func 74) #[] #[]] w fun e w' => e = .returned (.string (S (part (B s) i (i + sp (fun x => !p x) ((B s).drop i))))) ∧ Sc w' b s (i + sp (fun x => !p x) ((B s).drop i)) x2 x3 x4 ∧ Turned (fun k => k = b) w w' := by
  obtain ⟨J, hJ⟩ : ∃ J, J = i + sp (fun x => !p x) ((B s).drop i) := ⟨_, rfl⟩
  rw [← hJ]
  have HJ := Aside0.mk hJ
  have HJ1 := Aside0.mk (show J ≤ s.size by rw [hJ, ← B_length]; exact sp_to (by rw [B_length]; exact hi))
  have HJ2 := Aside0.mk (show i ≤ J by rw [hJ]; exact Nat.le_add_right _ _)
  have HPC := Aside0.mk hp
  have HB := Aside0.mk hb
  have HS := Aside0.mk hs
  have HI := Aside0.mk hi
  have c1 := hb.c1
  clear hJ hb hs hi hp
  go_enter Tryd.func66, Tryd.ntmps66
  go_wp2
  clear c1
  go_loopg [] (s.size + 1) (fun kq wr => ∃ (j : Nat), Aside0 (Sc wr b s j x2 x3 x4) ∧ Aside0 (j + sp (fun x => !p x) ((B s).drop j) = J ∧ j ≤ s.size ∧ s.size < j + kq) ∧ Aside0 (Turned (fun k => k = b) w wr))
  case atStart => exact ⟨i, HB, ⟨HJ.out.symm, HI.out, by omega⟩, ⟨Turned.refl _ _⟩⟩
  case round =>
    obtain ⟨j, HC, HQ, HT⟩ := hrel
    have c0 := HC.out.c0
    have c1 := HC.out.c1
    have f1 := HC.out.f1
    by_cases hj : j < s.size
    · obtain ⟨g, rfl⟩ : ∃ g, gk = g + 1 := ⟨gk - 1, by have := HQ.out.2.2; omega⟩
      have hd : decide (j < s.size) = true := decide_eq_true hj
      have hjj : (j : Int) < (s.size : Int) := by omega
      have hjs : (j : Int) < 1099511627776 := by have := HS.out; omega
      have hx := bt_at s (j : Int)
      rw [Int.toNat_natCast] at hx
      have hst := sp_step (p := fun x => !p x) hj
      rcases hw : p (bt s (j : Int)) with _ | _
      · have HW := Aside0.mk (fun W (hW : Turned (fun k => k = b) w W) => (HPC.out (bt s (j : Int)) W hW).mono (fun e w' (h : e = _ ∧ W = w') => (⟨by rw [h.1, hw], h.2.symm⟩ : e = .returned (.bool false) ∧ w' = W)))
        have HE := Aside0.mk (show j + 1 + sp (fun x => !p x) ((B s).drop (j + 1)) = J by have := HQ.out.1; rw [hst, hw] at this; exact this)
        have HJ1 := Aside0.mk hj
        clear hst hw hj
        go_wp2
        go_quiet ((exact Calls.quiet_of_same (HW.out _ (HT.out.drewN _))))
        go_wp2
        go_roundg g
        case measure => omega
        case rel => exact ⟨j + 1, ⟨HC.out.at_ (j + 1)⟩, ⟨HE.out, HJ1.out, by have := HQ.out.2.2; omega⟩, ⟨(HT.out.at_ _ _).drewN _⟩⟩
      · have HW := Aside0.mk (fun W (hW : Turned (fun k => k = b) w W) => (HPC.out (bt s (j : Int)) W hW).mono (fun e w' (h : e = _ ∧ W = w') => (⟨by rw [h.1, hw], h.2.symm⟩ : e = .returned (.bool true) ∧ w' = W)))
        have HE := Aside0.mk (show j = J by have := HQ.out.1; rw [hst, hw] at this; exact this)
        clear hst hw hj
        go_wp2
        go_quiet ((exact Calls.quiet_of_same (HW.out _ (HT.out.drewN _))))
        go_wp2
        have hij : (i : Int) ≤ (j : Int) := by have := HJ2.out; have := HE.out; omega
        have hjz : (j : Int) ≤ (s.size : Int) := by have := HJ1.out; have := HE.out; omega
        go_quiet (fail)
        go_wp2
        go_ret
        exact ⟨ret_str (by rw [← HE.out, ← part_f]), by rw [← HE.out]; exact (HC.out.drewN _).drewN _, (HT.out.drewN _).drewN _⟩
    · have hd : decide (j < s.size) = false := decide_eq_false hj
      have HE := Aside0.mk (show j = J by have := HQ.out.1; rw [sp_end (by omega)] at this; exact this)
      have hij : (i : Int) ≤ (j : Int) := by have := HJ2.out; have := HE.out; omega
      have hjz : (j : Int) ≤ (s.size : Int) := by have := HJ1.out; have := HE.out; omega
      clear hj
      go_wp2
      go_quiet (fail)
      go_wp2
      go_quiet (fail)
      go_wp2
      go_ret
      exact ⟨ret_str (by rw [← HE.out, ← part_f]), by rw [← HE.out]; exact (HC.out.drewN _).drewN _, (HT.out.drewN _).drewN _⟩
set_option maxHeartbeats 4000000 in
set_option maxRecDepth 100000 in
theorem until_q (s : ByteArray) (hs : s.size < 2 ^ 40) (b i : Nat) (hi : i ≤ s.size) (x2 x3 x4 : Value) (w : World) (hb : Sc w b s i x2 x3 x4) (qb : Nat) (p : Int → Bool) (hp : ∀ x W, Turned (fun k => k = b) w W → Calls Tryd.prog 87 #[.int .u8 x, .pointer (some ⟨qb, 0, none⟩)] W fun e w' => e = .returned (.bool (p x)) ∧ W = w') :
    Calls Tryd.prog 66 #[.pointer (some ⟨b, 0, none⟩), .func (.func 87) #[] #[.pointer (some ⟨qb, 0, none⟩)]] w fun e w' => e = .returned (.string (S (part (B s) i (i + sp (fun x => !p x) ((B s).drop i))))) ∧ Sc w' b s (i + sp (fun x => !p x) ((B s).drop i)) x2 x3 x4 ∧ Turned (fun k => k = b) w w' := by
  obtain ⟨J, hJ⟩ : ∃ J, J = i + sp (fun x => !p x) ((B s).drop i) := ⟨_, rfl⟩
  rw [← hJ]
  have HJ := Aside0.mk hJ
  have HJ1 := Aside0.mk (show J ≤ s.size by rw [hJ, ← B_length]; exact sp_to (by rw [B_length]; exact hi))
  have HJ2 := Aside0.mk (show i ≤ J by rw [hJ]; exact Nat.le_add_right _ _)
  have HPC := Aside0.mk hp
  have HB := Aside0.mk hb
  have HS := Aside0.mk hs
  have HI := Aside0.mk hi
  have c1 := hb.c1
  clear hJ hb hs hi hp
  go_enter Tryd.func66, Tryd.ntmps66
  go_wp2
  clear c1
  go_loopg [] (s.size + 1) (fun kq wr => ∃ (j : Nat), Aside0 (Sc wr b s j x2 x3 x4) ∧ Aside0 (j + sp (fun x => !p x) ((B s).drop j) = J ∧ j ≤ s.size ∧ s.size < j + kq) ∧ Aside0 (Turned (fun k => k = b) w wr))
  case atStart => exact ⟨i, HB, ⟨HJ.out.symm, HI.out, by omega⟩, ⟨Turned.refl _ _⟩⟩
  case round =>
    obtain ⟨j, HC, HQ, HT⟩ := hrel
    have c0 := HC.out.c0
    have c1 := HC.out.c1
    have f1 := HC.out.f1
    by_cases hj : j < s.size
    · obtain ⟨g, rfl⟩ : ∃ g, gk = g + 1 := ⟨gk - 1, by have := HQ.out.2.2; omega⟩
      have hd : decide (j < s.size) = true := decide_eq_true hj
      have hjj : (j : Int) < (s.size : Int) := by omega
      have hjs : (j : Int) < 1099511627776 := by have := HS.out; omega
      have hx := bt_at s (j : Int)
      rw [Int.toNat_natCast] at hx
      have hst := sp_step (p := fun x => !p x) hj
      rcases hw : p (bt s (j : Int)) with _ | _
      · have HW := Aside0.mk (fun W (hW : Turned (fun k => k = b) w W) => (HPC.out (bt s (j : Int)) W hW).mono (fun e w' (h : e = _ ∧ W = w') => (⟨by rw [h.1, hw], h.2.symm⟩ : e = .returned (.bool false) ∧ w' = W)))
        have HE := Aside0.mk (show j + 1 + sp (fun x => !p x) ((B s).drop (j + 1)) = J by have := HQ.out.1; rw [hst, hw] at this; exact this)
        have HJ1 := Aside0.mk hj
        clear hst hw hj
        go_wp2
        go_quiet ((exact Calls.quiet_of_same (HW.out _ (HT.out.drewN _))))
        go_wp2
        go_roundg g
        case measure => omega
        case rel => exact ⟨j + 1, ⟨HC.out.at_ (j + 1)⟩, ⟨HE.out, HJ1.out, by have := HQ.out.2.2; omega⟩, ⟨(HT.out.at_ _ _).drewN _⟩⟩
      · have HW := Aside0.mk (fun W (hW : Turned (fun k => k = b) w W) => (HPC.out (bt s (j : Int)) W hW).mono (fun e w' (h : e = _ ∧ W = w') => (⟨by rw [h.1, hw], h.2.symm⟩ : e = .returned (.bool true) ∧ w' = W)))
        have HE := Aside0.mk (show j = J by have := HQ.out.1; rw [hst, hw] at this; exact this)
        clear hst hw hj
        go_wp2
        go_quiet ((exact Calls.quiet_of_same (HW.out _ (HT.out.drewN _))))
        go_wp2
        have hij : (i : Int) ≤ (j : Int) := by have := HJ2.out; have := HE.out; omega
        have hjz : (j : Int) ≤ (s.size : Int) := by have := HJ1.out; have := HE.out; omega
        go_quiet (fail)
        go_wp2
        go_ret
        exact ⟨ret_str (by rw [← HE.out, ← part_f]), by rw [← HE.out]; exact (HC.out.drewN _).drewN _, (HT.out.drewN _).drewN _⟩
    · have hd : decide (j < s.size) = false := decide_eq_false hj
      have HE := Aside0.mk (show j = J by have := HQ.out.1; rw [sp_end (by omega)] at this; exact this)
      have hij : (i : Int) ≤ (j : Int) := by have := HJ2.out; have := HE.out; omega
      have hjz : (j : Int) ≤ (s.size : Int) := by have := HJ1.out; have := HE.out; omega
      clear hj
      go_wp2
      go_quiet (fail)
      go_wp2
      go_quiet (fail)
      go_wp2
      go_ret
      exact ⟨ret_str (by rw [← HE.out, ← part_f]), by rw [← HE.out]; exact (HC.out.drewN _).drewN _, (HT.out.drewN _).drewN _⟩
end Go.Proofs.YtnjnoabldjodcaaDoor.Tok
