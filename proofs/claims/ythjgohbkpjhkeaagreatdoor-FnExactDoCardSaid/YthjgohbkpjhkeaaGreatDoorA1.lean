/- Part 1 of the proof: Sq, MapLib, DoMk, Tr, DoForest. -/
import Derived.Test.YthjgohbkpjhkeaaGreatDoorX0
import Derived.WalkKit
import Derived.Maps.OwnOps
import Derived.Laws.StructEq
set_option linter.unusedVariables false
set_option linter.unusedSimpArgs false
namespace Go.Proofs.YthjgohbkpjhkeaaGreatDoor
open Go.RowKit Go.Proofs.YthjgohbkpjhkeaaGreatDoorW.PrintWords
theorem am {p : Prop} (h : p) : Aside0 p := ⟨h⟩
end Go.Proofs.YthjgohbkpjhkeaaGreatDoor
namespace Go.Proofs.YthjgohbkpjhkeaaGreatDoor.MapLib
open Go.RowKit
structure KeyEnc (P : Program) {α : Type} [DecidableEq α] (kt : TypeId) (enc : α → Value) : Prop where
 kind : ∃ d, P.underlying kt = some d ∧ (∀ a b, Instr.sameNow d (enc a) (enc b) = some (decide (a = b))) ∧ (∀ e n v w, (Instr.checkKey e (n + 1) kt v).run P w = .ok () w)
 bits : ∀ n a, Instr.sameBits n (enc a) (enc a) = true
theorem check_plain {P : Program} {kt : TypeId} {d : TypeDesc} (hd : P.underlying kt = some d) (h : (∃ k, d = .int k) ∨ d = .string) (e : Bool) (n : Nat) (v : Value) (w : World) :
  (Instr.checkKey e (n + 1) kt v).run P w = .ok () w := by
 rcases h with ⟨k, rfl⟩ | rfl <;> simp [Instr.checkKey, run_underlying hd]
theorem key_int {P : Program} {kt : TypeId} {k : IntKind} (h : P.underlying kt = some (.int k)) : KeyEnc P kt (fun n : Int => Value.int k n) where
 kind := ⟨_, h, fun a b => by simp [Instr.sameNow]; exact Bool.beq_eq_decide_eq a b, fun e n v w => check_plain h (.inl ⟨k, rfl⟩) e n v w⟩
 bits := fun n a => by cases n <;> simp [Instr.sameBits]
theorem bytes_beq (a b : ByteArray) : (a == b) = decide (a = b) := by
 rw [Go.beq_toListBytes, Bool.eq_iff_iff, beq_iff_eq, decide_eq_true_eq, ByteArray.toList_eq, ByteArray.toList_eq]
 constructor
 ·intro h
  obtain ⟨⟨x⟩⟩ := a
  obtain ⟨⟨y⟩⟩ := b
  simpa using h
 ·intro h; rw [h]
theorem key_string {P : Program} {kt : TypeId} (h : P.underlying kt = some .string) : KeyEnc P kt (fun n : ByteArray => Value.string n) where
 kind := ⟨_, h, fun a b => by simp [Instr.sameNow, bytes_beq], fun e n v w => check_plain h (.inr rfl) e n v w⟩
 bits := fun n a => by cases n <;> simp [Instr.sameBits, bytes_beq]
section
variable {α : Type} {enc : α → Value}
def MapIs (enc : α → Value) (w : World) (b : Nat) (m : List (α × Value)) : Prop :=
 ∃ (bs : List Nat) (clock : Nat), bs.length = m.length ∧
  w.heap[b]? = some (.map ((m.zip bs).map (fun p => ({ key := enc p.1.1, val := p.1.2, born := p.2 } : MapEntry))).toArray clock)
theorem blk_newest (w : World) (o : Obj) : (w.alloc o).heap[w.heap.size]? = some o := by
 show (w.heap.push o)[w.heap.size]? = some o
 simp
theorem cell_newest (w : World) (cs : Array Value) (t : TypeId) (fr : Nat × Nat) (j : Nat) : (w.alloc (.cells cs t fr)).cell? ⟨w.heap.size, j, none⟩ = cs[j]? := by
 simp only [World.cell?]
 rw [blk_newest]
 rfl
theorem MapIs.made (w : World) : MapIs enc (w.alloc (.map #[] 0)) w.heap.size ([] : List (α × Value)) :=
 ⟨[], 0, rfl, blk_newest w _⟩
theorem MapIs.lt {w : World} {b : Nat} {m : List (α × Value)} (h : MapIs enc w b m) : b < w.heap.size := by
 obtain ⟨bs, clock, _, hb⟩ := h
 exact (Array.getElem?_eq_some_iff.1 hb).1
theorem MapIs.kept {w w' : World} {b : Nat} {m : List (α × Value)} (h : MapIs enc w b m) (hk : w'.heap[b]? = w.heap[b]?) : MapIs enc w' b m := by
 obtain ⟨bs, clock, hl, hb⟩ := h
 exact ⟨bs, clock, hl, hk.trans hb⟩
theorem MapIs.below {w w' : World} {b : Nat} {m : List (α × Value)} (h : MapIs enc w b m) (hb : Below w.heap.size w w') : MapIs enc w' b m := h.kept (hb.block b h.lt)
end
section
variable {P : Program} {α : Type} [DecidableEq α] {kt et mt : TypeId} {enc : α → Value}
def mlook (m : List (α × Value)) (k : α) : Option Value := (m.find? (fun p => decide (k = p.1))).map (·.2)
theorem findNow_zip {d : TypeDesc} (hd : ∀ a b, Instr.sameNow d (enc a) (enc b) = some (decide (a = b))) (k : α) :
  ∀ (m : List (α × Value)) (bs : List Nat) (i : Nat), bs.length = m.length →
   Instr.findNow d (enc k) ((m.zip bs).map (fun p => ({ key := enc p.1.1, val := p.1.2, born := p.2 } : MapEntry))) i =
    some ((m.findIdx? (fun p => decide (k = p.1))).bind (fun j => (m[j]?).map (fun p => (i + j, p.2))))
 | [], bs, i, _ => by simp [Instr.findNow]
 | p :: m, [], i, h => by simp at h
 | p :: m, b :: bs, i, h => by
  simp only [List.zip_cons_cons, List.map_cons, Instr.findNow, hd]
  by_cases hk : k = p.1
  ·simp [hk, List.findIdx?_cons]
  ·rw [findNow_zip hd k m bs (i + 1) (by simpa using h)]
   simp only [hk, decide_false, List.findIdx?_cons, Bool.false_eq_true, if_false]
   cases hf : m.findIdx? (fun p => decide (k = p.1)) with
   | none => simp
   | some j => simp [Nat.add_assoc, Nat.add_comm 1 j]
theorem findIdx_look (m : List (α × Value)) (k : α) :
  ((m.findIdx? (fun p => decide (k = p.1))).bind (fun j => (m[j]?).map (fun p => p.2))) = mlook m k := by
 induction m with
 | nil => simp [mlook]
 | cons p m ih =>
  unfold mlook at ih ⊢
  by_cases hk : k = p.1
  ·simp [hk, List.findIdx?_cons]
  ·simp only [List.findIdx?_cons, hk, decide_false, Bool.false_eq_true, if_false, List.find?_cons]
   rw [← ih]
   cases hf : m.findIdx? (fun p => decide (k = p.1)) with
   | none => simp
   | some j => simp
theorem run_lookup {w : World} {b : Nat} {m : List (α × Value)} (K : KeyEnc P kt enc) (ht : P.underlying mt = some (.map kt et)) {z : Value}
  (hz : (zeroValue et).run P w = .ok z w) (h : MapIs enc w b m) (k : α) :
  (Instr.lookup mt (.map (some b)) (enc k) false).run P w = .ok ((mlook m k).getD z) w := by
 obtain ⟨bs, clock, hl, hb⟩ := h
 obtain ⟨d, hd, hs, hc⟩ := K.kind
 have hf := findNow_zip hs k m bs 0 hl
 have hg : (getObj b).run P w = .ok (.map ((m.zip bs).map (fun p => ({ key := enc p.1.1, val := p.1.2, born := p.2 } : MapEntry))).toArray clock) w := by
  simp [getObj, Sem.run, hb]
 have hc' := fun e v => hc e 9999 v w
 have hlk := findIdx_look m k
 cases hfi : m.findIdx? (fun p => decide (k = p.1)) with
 | none =>
  rw [hfi] at hf hlk
  simp only [Option.bind_none] at hf hlk
  simp [Instr.lookup, run_underlying ht, hg, hc', Instr.findKey, run_underlying hd, hf, hz, ← hlk]
 | some j =>
  rw [hfi] at hf hlk
  have hj : j < m.length := (List.findIdx?_eq_some_iff_getElem.1 hfi).1
  simp only [Option.bind_some, List.getElem?_eq_getElem hj, Option.map_some, Nat.zero_add] at hf hlk
  simp [Instr.lookup, run_underlying ht, hg, hc', Instr.findKey, run_underlying hd, hf, ← hlk]
theorem run_store_new {w : World} {b : Nat} {m : List (α × Value)} (K : KeyEnc P kt enc) (ht : P.underlying mt = some (.map kt et))
  (h : MapIs enc w b m) (k : α) (v : Value) (hn : mlook m k = none) :
  ∃ w', (Instr.mapUpdate mt (.map (some b)) (enc k) v).run P w = .ok () w' ∧ MapIs enc w' b (m ++ [(k, v)]) ∧ w.grownBy w' (some b) := by
 obtain ⟨bs, clock, hl, hb⟩ := h
 obtain ⟨d, hd, hs, hc⟩ := K.kind
 have hf := findNow_zip hs k m bs 0 hl
 have hg : (getObj b).run P w = .ok (.map ((m.zip bs).map (fun p => ({ key := enc p.1.1, val := p.1.2, born := p.2 } : MapEntry))).toArray clock) w := by
  simp [getObj, Sem.run, hb]
 have hc' := fun e v => hc e 9999 v w
 have hfi : m.findIdx? (fun p => decide (k = p.1)) = none := by
  rw [List.findIdx?_eq_none_iff]
  intro p hp
  unfold mlook at hn
  simp only [Option.map_eq_none_iff, List.find?_eq_none] at hn
  simpa using hn p hp
 rw [hfi] at hf
 simp only [Option.bind_none] at hf
 have hlt : b < w.heap.size := (Array.getElem?_eq_some_iff.1 hb).1
 refine ⟨{ w with heap := w.heap.setIfInBounds b (.map (((m.zip bs).map (fun p => ({ key := enc p.1.1, val := p.1.2, born := p.2 } : MapEntry))).toArray.push { key := enc k, val := v, born := clock }) (clock + 1)) }, ?_, ?_, ?_⟩
 ·simp [Instr.mapUpdate, run_underlying ht, hg, hc', Instr.findKey, run_underlying hd, hf, setObj, Sem.run, hb]
 ·refine ⟨bs ++ [clock], clock + 1, by simp [hl], ?_⟩
  simp only [Array.getElem?_setIfInBounds, if_pos hlt]
  simp [List.zip_append hl.symm]
 ·exact ⟨rfl, rfl, rfl, by simp, fun i hi hne => by
   simp only [Array.getElem?_setIfInBounds]
   rw [if_neg (fun e => hne (by rw [e]))]⟩
theorem mlook_append (m : List (α × Value)) (k k' : α) (v : Value) : mlook (m ++ [(k, v)]) k' = (mlook m k').or (if k' = k then some v else none) := by
 unfold mlook
 rw [List.find?_append]
 cases h : m.find? (fun p => decide (k' = p.1)) with
 | some x => simp
 | none =>
  by_cases e : k' = k <;> simp [e]
end
section
variable {P : Program} {ops : Array Oper} {rest : List Oper} {o : Oper} {a : Act} {Q : Exit → Act → World → Prop} {α : Type} [DecidableEq α] {enc : α → Value}
theorem wp_lookup (w : World) (hg : o.guard = none) (m x : Operand) (mt kt et : TypeId) (hop : o.op = Op.lookup mt m x false)
  (K : KeyEnc P kt enc) (ht : P.underlying mt = some (.map kt et)) (z : Value) (hz : (zeroValue et).run P w = .ok z w) (b : Nat) (l : List (α × Value))
  (hm : a.eval m = .map (some b)) (h : MapIs enc w b l) (k : α) (hx : a.eval x = enc k)
  (hK : wpList P ops Q rest (a.put o.dst ((mlook l k).getD z)) w) : wpList P ops Q (o :: rest) a w := by
 refine wpList_plain hg fun K' hK' => ?_
 have hrun := run_lookup K ht hz h k
 unfold Oper.wp
 simp [execOp, hop, hm, hx, hrun, Result.andThen]
 exact hK' _ _ hK
theorem wp_store_new (w : World) (hg : o.guard = none) (m x v : Operand) (mt kt et : TypeId) (hop : o.op = Op.mapUpdate mt m x v)
  (K : KeyEnc P kt enc) (ht : P.underlying mt = some (.map kt et)) (b : Nat) (l : List (α × Value))
  (hm : a.eval m = .map (some b)) (h : MapIs enc w b l) (k : α) (hx : a.eval x = enc k) (val : Value) (hv : a.eval v = val) (hn : mlook l k = none)
  (hK : ∀ w', MapIs enc w' b (l ++ [(k, val)]) → w.grownBy w' (some b) → wpList P ops Q rest (a.put o.dst undef) w') : wpList P ops Q (o :: rest) a w := by
 refine wpList_plain hg fun K' hK' => ?_
 obtain ⟨w', hrun, r1, r2⟩ := run_store_new K ht h k val hn
 unfold Oper.wp
 simp [execOp, hop, hm, hx, hv, hrun, Result.andThen]
 exact hK' _ _ (hK w' r1 r2)
end
end Go.Proofs.YthjgohbkpjhkeaaGreatDoor.MapLib
set_option maxHeartbeats 4000000
set_option maxRecDepth 100000
namespace Go.Proofs.YthjgohbkpjhkeaaGreatDoor.PFnExactDo
open Go.RowKit Go.Proofs.YthjgohbkpjhkeaaGreatDoorW.PrintWords Go.Proofs.YthjgohbkpjhkeaaGreatDoorW.PrintLast Go.Proofs.YthjgohbkpjhkeaaGreatDoorW.PrintMore Go.Proofs.YthjgohbkpjhkeaaGreatDoor.MapLib
def digs : Nat → Int → ByteArray → ByteArray
 | 0, _, s => s
 | d + 1, x, s => if x > 0 then digs d (Int.tdiv x 10) (strOfNums [(wrap64 (48 + Int.tmod x 10)) % 256] ++ s) else s
def laws_markText.f (k : Nat) (n : Int) : Option ByteArray := if n ≤ 0 then some ⟨#[109, 48]⟩ else if n < 2305843009213693952 then some ((⟨#[109]⟩ : ByteArray) ++ digs n.toNat n ⟨#[]⟩) else none
theorem laws_markText.calls (k : Nat) (n : Int) (r : ByteArray) (w : World) (h : laws_markText.f k n = some r) :
  Calls Tryz.prog 54 #[.int .i64 n] w fun e w' => e = .returned (.string r) ∧ Below w.heap.size w w' := by
 unfold laws_markText.f at h
 split at h
 ·rename_i c
  have d5 := decide_eq_true c
  have HE := am (Option.some.inj h)
  clear c h
  go_enter Tryz.func54, Tryz.ntmps54
  go_wp2
  go_ret
  rw [← HE.out]
  exact ⟨rfl, Below.refl _ _⟩
 rename_i c
 split at h
 case isFalse => cases h
 rename_i c2
 have d5 := decide_eq_false c
 have HE := am (Option.some.inj h)
 obtain ⟨big, hbig⟩ : ∃ big : Int, big = 4611686018427387904 := ⟨_, rfl⟩
 have hb9 : big ≤ 4611686018427387904 := by omega
 have HN := am (show 0 ≤ n ∧ n < 2305843009213693952 ∧ big = 4611686018427387904 from ⟨by omega, c2, hbig⟩)
 clear h c c2 hbig
 go_enter Tryz.func54, Tryz.ntmps54
 go_wp2
 go_loopg [0, 3] (n.toNat + 1) (fun kq v0 v3 wr => ∃ (d : Nat) (x : Int) (s : ByteArray), v0 = .int .i64 x ∧ v3 = .string s ∧ Aside0 (d + 1 = kq ∧ 0 ≤ x ∧ x.toNat ≤ d ∧ s.size + d ≤ 2305843009213693952 ∧ (⟨#[109]⟩ : ByteArray) ++ digs d x s = r) ∧ Aside0 (Below w.heap.size w wr))
 case atStart => exact ⟨n.toNat, n, ⟨#[]⟩, rfl, rfl, ⟨rfl, HN.out.1, Nat.le_refl _, by have := HN.out; simp [ByteArray.size]; omega, HE.out⟩, ⟨Below.refl _ _⟩⟩
 case round =>
  obtain ⟨d, x, s, rfl, rfl, HI, HB⟩ := hrel
  obtain ⟨h1, h2, h3, h4, h5⟩ := HI.out
  have hxb : x < big := by have := HN.out; omega
  by_cases c : x > 0
  ·have d7 : decide (0 < x) = true := decide_eq_true c
   have d7' : decide (x > 0) = true := d7
   obtain ⟨m, rfl⟩ : ∃ m, d = m + 1 := ⟨d - 1, by omega⟩
   rw [digs, if_pos c] at h5
   obtain ⟨y, hy⟩ : ∃ y, (wrap64 (48 + Int.tmod x 10)) % 256 = y := ⟨_, rfl⟩
   rw [hy] at h5
   have hs1 : (strOfNums [y]).size = 1 := by simp [strOfNums, ByteArray.size]
   have hq : Int.tdiv x 10 = x / 10 := Int.tdiv_eq_ediv_of_nonneg h2
   have hsz : (strOfNums [y]).size + s.size ≤ 9223372036854775807 := by omega
   have hsz2 : (9223372036854775807 < (strOfNums [y]).size + s.size) = False := eq_false (Nat.not_lt.2 hsz)
   have HI2 := am (show m + 1 + 1 = gk ∧ 0 ≤ Int.tdiv x 10 ∧ (Int.tdiv x 10).toNat ≤ m ∧ (strOfNums [y] ++ s).size + m ≤ 2305843009213693952 ∧ (⟨#[109]⟩ : ByteArray) ++ digs m (Int.tdiv x 10) (strOfNums [y] ++ s) = r from ⟨h1, by omega, by omega, by rw [ByteArray.size_append, hs1]; omega, h5⟩)
   have hw : wrap64 (Int.tdiv x 10) = Int.tdiv x 10 := by rw [hq]; unfold wrap64; have := HN.out; omega
   have HW := am hw
   clear h1 h2 h3 h4 h5 hs1 hq c hw hsz
   go_wp2_with (((with_reducible refine gate_dst (N := 12) rfl ?_); refine Kd.R_lit (Kd.int .u8) (w0 := w) w.heap.size 5 ?hg (N := 12) ?hd (xs := [y]) (inner := [.int .u8 y]) (ok := fun _ => True) (okp := fun _ => True) ?hr ?hp (fun _ hk => hk) trivial HB.out (below_size HB.out) (by simp) ?_; (case hd => rfl); (case hg => rfl); (case hr => (go_simp; done)); (case hp => exact (Reps.one (show Kd.M (Kd.int .u8) _ _ _ y [.int .u8 y] from rfl) (Reps.none _ _))); intro v1 w1 ho hb hg_ hn_; have HO := am ho; have HB1 := am hb; clear hg_ hn_ hb ho; have hcv := own_string (P := Tryz.prog) Tryz.underlying136 Tryz.underlying5 Tryz.underlying9 (Kd.own_of_R HO.out)))
   go_roundg (gk - 1)
   case measure => have := HI2.out.1; omega
   case rel => exact ⟨m, Int.tdiv x 10, strOfNums [y] ++ s, by rw [HW.out], rfl, ⟨by have := HI2.out.1; omega, HI2.out.2.1, HI2.out.2.2.1, HI2.out.2.2.2.1, HI2.out.2.2.2.2⟩, HB1⟩
  ·have d7 : decide (0 < x) = false := decide_eq_false c
   have HX := am (show (⟨#[109]⟩ : ByteArray) ++ s = r ∧ 1 + s.size ≤ 9223372036854775807 from ⟨by rw [← h5]; cases d <;> simp [digs, c], by omega⟩)
   have hsz := HX.out.2
   have hsz2 : (9223372036854775807 < 1 + s.size) = False := eq_false (Nat.not_lt.2 hsz)
   clear h1 h2 h3 h4 h5 c hsz
   go_wp2
   go_ret
   rw [← HX.out.1]
   exact ⟨rfl, HB.out⟩
def mtext (n : Int) : ByteArray := (laws_markText.f 0 n).getD ⟨#[]⟩
theorem mtext_f {n : Int} (h : n < 2305843009213693952) (k : Nat) : laws_markText.f k n = some (mtext n) := by
 unfold mtext laws_markText.f
 rw [if_pos h]
 split
 ·rfl
 ·rfl
def marked : List S149 → Int → List S149
 | [], _ => []
 | _ :: r, a => ⟨mtext a, mtext (a + 1)⟩ :: marked r (a + 1 + 1)
theorem marked_len : ∀ (xs : List S149) (a : Int), (marked xs a).length = xs.length
 | [], _ => rfl
 | _ :: r, a => congrArg (· + 1) (marked_len r _)
theorem marked_snoc : ∀ (xs : List S149) (x : S149) (a b : Int), b = a + 2 * xs.length → marked (xs ++ [x]) a = marked xs a ++ [⟨mtext b, mtext (b + 1)⟩]
 | [], x, a, b, h => by simp at h; subst h; rfl
 | y :: r, x, a, b, h => congrArg (_ :: ·) (marked_snoc r x (a + 1 + 1) b (by simp at h; omega))
theorem mark_step {xs : List S149} {i : Nat} {a b : Int} (hi : i < xs.length) (hb : b = a + 2 * i) : (marked (xs.take i) a ++ xs.drop i).set i ⟨mtext b, mtext (b + 1)⟩ = marked (xs.take (i + 1)) a ++ xs.drop (i + 1) := by
 have hl : (marked (xs.take i) a).length = i := by rw [marked_len]; simp; omega
 rw [List.set_append_right _ _ (by omega), hl, Nat.sub_self, List.drop_eq_getElem_cons hi, List.set_cons_zero, List.take_succ_eq_append_getElem hi, marked_snoc _ _ a b (by simp; omega)]
 simp
def laws_markAttrS.f (k : Nat) (xs : List S149) (a : Int) : Option (Int × List S149) := if 0 ≤ a ∧ a + 2 * xs.length < 576460752303423488 then some (a + 2 * xs.length, marked xs a) else none
theorem put_attr {W : World} {base g n cap i : Nat} {ok : Nat → Prop} {L : List S149} (h : Kd.R k149 149 W base ok (.slice (some ⟨g, 0, none⟩) n cap) L) (hi : i < L.length) (y : ByteArray) :
  ((∃ u, W.cell? ⟨g, i * 2, none⟩ = some (.string u)) ∧ W.frozen? ⟨g, i * 2, none⟩ = false ∧ ∀ W', W.setCell ⟨g, i * 2, none⟩ (.string y) = W' → Kd.R k149 149 W' base ok (.slice (some ⟨g, 0, none⟩) n cap) (L.set i ⟨y, L[i].f1⟩) ∧ W.grownBy W' (some g)) ∧
  ((∃ u, W.cell? ⟨g, i * 2 + 1, none⟩ = some (.string u)) ∧ W.frozen? ⟨g, i * 2 + 1, none⟩ = false ∧ ∀ W', W.setCell ⟨g, i * 2 + 1, none⟩ (.string y) = W' → Kd.R k149 149 W' base ok (.slice (some ⟨g, 0, none⟩) n cap) (L.set i ⟨L[i].f0, y⟩) ∧ W.grownBy W' (some g)) := by
 have hn : n = L.length := (Kd.R_reads' h).1
 obtain ⟨ce, hcl, hM, hcc, hfr⟩ := Kd.R_elem h z149 (i : Int) (by omega) (by omega)
 have hge : L.getD (i : Int).toNat z149 = L[i] := by simp [hi]
 rw [hge] at hM
 obtain rfl := k149_openM hM
 have hP := Kd.R_seg h (i : Int) (by omega) (by omega) (seg := [.string y]) (j := 0) hcl hcc (show 1 ≤ 2 from by decide) (x' := ⟨y, L[i].f1⟩) (okp := fun _ => False) (k149_mkM _ _ _ _) (fun _ hk => hk.elim)
 have hQ := Kd.R_seg h (i : Int) (by omega) (by omega) (seg := [.string y]) (j := 1) hcl hcc (show 2 ≤ 2 from by decide) (x' := ⟨L[i].f0, y⟩) (okp := fun _ => False) (k149_mkM _ _ _ _) (fun _ hk => hk.elim)
 simp only [Int.toNat_natCast] at hcc hfr hP hQ
 exact ⟨⟨⟨_, hcc 0 _ rfl⟩, hfr 0, fun W' hW => by subst hW; exact hP⟩, ⟨_, hcc 1 _ rfl⟩, hfr 1, fun W' hW => by subst hW; exact hQ⟩
theorem laws_markAttrS.calls (k : Nat) (P0_ : Nat → Prop) (v0 : Value) (xs : List S149) (a : Int) (r1 : Int) (r2 : List S149) (w0 w : World) (hB : Below w0.heap.size w0 w) (ho0 : Kd.R k149 149 w w0.heap.size P0_ v0 xs) (h : laws_markAttrS.f k xs a = some (r1, r2)) :
  Calls Tryz.prog 80 #[v0, .int .i64 a] w fun e w' => e = .returned (.int .i64 r1) ∧ Kd.R k149 149 w' w0.heap.size (fun k_ => P0_ k_ ∨ w.heap.size ≤ k_) v0 r2 ∧ Below w0.heap.size w0 w' ∧ Kept w w' (fun k_ => P0_ k_) := by
 have hu := Tryz.underlying149
 unfold laws_markAttrS.f at h
 split at h
 case isFalse => cases h
 rename_i c
 obtain ⟨c1, c2⟩ := c
 injection h with h
 injection h with h1 h2
 subst h1 h2
 obtain ⟨A, cp, rfl⟩ := Kd.R_slice ho0
 have HX := am (And.intro hB ho0)
 obtain ⟨big, hbig⟩ : ∃ big : Int, big = 576460752303423488 := ⟨_, rfl⟩
 have HA := am (show 0 ≤ a ∧ a + 2 * xs.length < big from ⟨c1, by omega⟩)
 have hb9 : big ≤ 576460752303423488 := by omega
 have HT := am (fun W n (h0 : n < 2305843009213693952) => laws_markText.calls 0 n _ W (mtext_f h0 0))
 clear hB ho0 c1 c2 hbig
 go_enter Tryz.func80, Tryz.ntmps80
 go_wp2
 go_loopg [1, 5] (xs.length + 1) (fun kq v1 v5 wr => ∃ (i : Nat) (m : Int), v1 = .int .i64 m ∧ v5 = .int .i64 i ∧ Aside0 (i + kq = xs.length + 1 ∧ i ≤ xs.length ∧ m = a + 2 * i) ∧ Aside0 (Kd.R k149 149 wr w0.heap.size P0_ (.slice A xs.length cp) (marked (xs.take i) a ++ xs.drop i)) ∧ Aside0 (Below w0.heap.size w0 wr ∧ Kept w wr P0_))
 case atStart => exact ⟨0, a, rfl, rfl, ⟨by omega, by omega, by simp⟩, ⟨HX.out.2⟩, ⟨HX.out.1, Kept.refl _ _⟩⟩
 case round =>
  obtain ⟨i, m, rfl, rfl, HI, HR, HK⟩ := hrel
  by_cases hlt : i < xs.length
  ·have hd : decide ((i : Int) < (xs.length : Int)) = true := decide_eq_true (by omega)
   have hd2 : decide (i < xs.length) = true := decide_eq_true hlt
   have hi0 : (i : Int) < xs.length := by omega
   have hie := eq_true hi0
   have hj0 := eq_true (show (0 : Int) ≤ (i : Int) from by omega)
   have hmb : 0 ≤ m ∧ m < big ∧ (xs.length : Int) < big := by have h1 := HI.out; have h2 := HA.out; omega
   obtain ⟨hm0, hm1, hm2⟩ := hmb
   have hst := mark_step (a := a) hlt HI.out.2.2
   have hll : (marked (xs.take i) a ++ xs.drop i).length = xs.length := by rw [List.length_append, marked_len]; simp; omega
   have hR := HR.out
   generalize marked (xs.take i) a ++ xs.drop i = L at hR hst hll
   clear HR
   obtain ⟨g, c1, e5, gb, gl, cl, hcl⟩ := Kd.R_form hR (by omega)
   injection e5 with e5 e7 e6
   clear e7
   subst e5 e6
   have HI2 := am (And.intro hlt (And.intro (hR.1 _ rfl) (And.intro gb hll)))
   have HS := am hst
   have HR := am hR
   have hp := hm0
   have HT1 := am (fun W => HT.out W m (by omega))
   clear hlt hcl gb gl hll hst hR
   go_upto_region 5 with (first | (go_at_call 54; refine (HT1.out _).mono ?_; rintro e w2 ⟨rfl, hb2⟩; have HR2 := am (Kd.R_below HR.out hb2); have HK2 := am (And.intro (below_step HK.out.1 hb2) (HK.out.2.below hb2)); obtain ⟨⟨⟨_, hx⟩, hf, hF⟩, _⟩ := put_attr HR2.out (i := i) (by have := HI2.out; omega) (mtext m); have HF := am hF; clear hb2 hF))
   generalize hw3 : World.setCell _ _ _ = w3
   obtain ⟨hR3, hg3⟩ := HF.out _ hw3
   have HR3 := am hR3
   have HK3 := am (And.intro (hw3 ▸ below_set HK2.out.1 HI2.out.2.2.1 : Below w0.heap.size w0 w3) (Kept.of_grown hg3 HK2.out.2 (fun k e_ => by injection e_ with e_; rw [← e_]; exact .inl HI2.out.2.1)))
   have HT2 := am (fun W => HT.out W (m + 1) (by omega))
   clear hw3 hR3 hg3 hx hf
   go_upto_region 7 with (first | (go_at_call 54; refine (HT2.out _).mono ?_; rintro e w4 ⟨rfl, hb4⟩; have HR4 := am (Kd.R_below HR3.out hb4); have HK4 := am (And.intro (below_step HK3.out.1 hb4) (HK3.out.2.below hb4)); obtain ⟨_, ⟨_, hx⟩, hf, hG⟩ := put_attr HR4.out (i := i) (by have := HI2.out; simp; omega) (mtext (m + 1)); have HG := am hG; clear hb4 hG))
   generalize hw5 : World.setCell _ _ _ = w5
   obtain ⟨hR5, hg5⟩ := HG.out _ hw5
   rw [List.set_set, List.getElem_set_self] at hR5
   have HR5 := am (HS.out ▸ hR5)
   have HK5 := am (And.intro (hw5 ▸ below_set HK4.out.1 HI2.out.2.2.1 : Below w0.heap.size w0 w5) (Kept.of_grown hg5 HK4.out.2 (fun k e_ => by injection e_ with e_; rw [← e_]; exact .inl HI2.out.2.1)))
   clear hw5 hR5 hg5 hx hf
   go_wp2
   have hii : (i : Int) + 1 = ((i + 1 : Nat) : Int) := by omega
   go_roundg (gk - 1)
   case measure => have := HI.out; have := HI2.out.1; omega
   case rel => exact ⟨i + 1, _, rfl, by rw [hii], ⟨by have := HI.out; have := HI2.out.1; omega, HI2.out.1, by have := HI.out; omega⟩, HR5, HK5⟩
  ·have hd : decide ((i : Int) < (xs.length : Int)) = false := decide_eq_false (by omega)
   have hd2 : decide (i < xs.length) = false := decide_eq_false hlt
   have HE := am (show marked (xs.take i) a ++ xs.drop i = marked xs a ∧ m = a + 2 * xs.length from by have := HI.out; rw [List.take_of_length_le (by omega), List.drop_eq_nil_of_le (by omega), List.append_nil]; exact ⟨rfl, by omega⟩)
   clear hlt
   go_wp2
   go_ret
   exact ⟨by rw [← HE.out.2]; rfl, Kd.R_mono (HE.out.1 ▸ HR.out) (fun k hk => .inl hk), HK.out⟩
end Go.Proofs.YthjgohbkpjhkeaaGreatDoor.PFnExactDo
namespace Go.Proofs.YthjgohbkpjhkeaaGreatDoor.Tr
def fin : List Nat → Nat → Nat → Option Nat
 | _, 0, p => some p
 | [], _ + 1, _ => none
 | k :: ks, m + 1, p => fin ks (k + m) (p + 1)
def E (ks : List Nat) (p m : Nat) : Option Nat := fin (ks.drop p) m p
def Kid (ks : List Nat) (P i j : Nat) : Prop := P < ks.length ∧ i < ks.getD P 0 ∧ E ks (P + 1) i = some j
theorem fin_zero (ks : List Nat) (p : Nat) : fin ks 0 p = some p := by unfold fin; rfl
theorem fin_bounds : ∀ (ks : List Nat) (m p e : Nat), fin ks m p = some e → p ≤ e ∧ e ≤ p + ks.length ∧ m ≤ ks.length ∧ (0 < m → p < e)
 | ks, 0, p, e, h => by
  rw [fin_zero] at h
  injection h with h
  omega
 | [], m + 1, p, e, h => by simp [fin] at h
 | k :: ks, m + 1, p, e, h => by
  simp only [fin] at h
  have := fin_bounds ks (k + m) (p + 1) e h
  simp only [List.length_cons]
  omega
theorem fin_add : ∀ (ks : List Nat) (a b p : Nat), fin ks (a + b) p = (fin ks a p).bind (fun q => fin (ks.drop (q - p)) b q)
 | ks, 0, b, p => by simp [fin_zero]
 | [], a + 1, b, p => by
  rw [show a + 1 + b = (a + b) + 1 from by omega]
  simp [fin]
 | k :: ks, a + 1, b, p => by
  rw [show a + 1 + b = (a + b) + 1 from by omega]
  simp only [fin]
  rw [show k + (a + b) = (k + a) + b from by omega, fin_add ks (k + a) b (p + 1)]
  cases h : fin ks (k + a) (p + 1) with
  | none => rfl
  | some q =>
   have := fin_bounds _ _ _ _ h
   simp only [Option.bind_some]
   rw [show q - p = (q - (p + 1)) + 1 from by omega, List.drop_succ_cons]
theorem E_zero (ks : List Nat) (p : Nat) : E ks p 0 = some p := fin_zero _ _
theorem E_bounds {ks : List Nat} {p m e : Nat} (h : E ks p m = some e) : p ≤ e ∧ (0 < m → p < e ∧ e ≤ ks.length) := by
 have := fin_bounds _ _ _ _ h
 simp only [List.length_drop] at this
 omega
theorem E_add (ks : List Nat) (p a b : Nat) : E ks p (a + b) = (E ks p a).bind (fun q => E ks q b) := by
 unfold E
 rw [fin_add]
 cases h : fin (ks.drop p) a p with
 | none => rfl
 | some q =>
  have := fin_bounds _ _ _ _ h
  simp only [Option.bind_some, List.drop_drop]
  rw [show p + (q - p) = q from by omega]
theorem E_step {ks : List Nat} {p m : Nat} (h : p < ks.length) : E ks p (m + 1) = E ks (p + 1) (ks.getD p 0 + m) := by
 unfold E
 rw [List.drop_eq_getElem_cons h]
 simp only [fin]
 rw [List.getD_eq_getElem?_getD, List.getElem?_eq_getElem h, Option.getD_some]
theorem E_out {ks : List Nat} {p m : Nat} (h : ks.length ≤ p) : E ks p (m + 1) = none := by
 unfold E
 rw [List.drop_eq_nil_of_le h]
 rfl
theorem E_one {ks : List Nat} {p e : Nat} (h : E ks p 1 = some e) : p < ks.length ∧ E ks (p + 1) (ks.getD p 0) = some e := by
 have hp : p < ks.length := by
  rcases Nat.lt_or_ge p ks.length with hp | hp
  ·exact hp
  ·rw [E_out (m := 0) hp] at h; cases h
 rw [E_step (m := 0) hp] at h
 exact ⟨hp, h⟩
theorem E_part {ks : List Nat} {p a b e : Nat} (h : E ks p b = some e) (hab : a ≤ b) : ∃ q, E ks p a = some q ∧ E ks q (b - a) = some e ∧ q ≤ e := by
 rw [show b = a + (b - a) from by omega, E_add] at h
 cases hq : E ks p a with
 | none => rw [hq] at h; cases h
 | some q =>
  rw [hq] at h
  exact ⟨q, rfl, h, (E_bounds h).1⟩
theorem E_lt {ks : List Nat} {p a b q e : Nat} (hq : E ks p a = some q) (h : E ks p b = some e) (hab : a < b) : q < e := by
 obtain ⟨q', h1, h2, _⟩ := E_part h (Nat.le_of_lt hab)
 rw [hq] at h1
 injection h1 with h1
 subst h1
 exact ((E_bounds h2).2 (by omega)).1
theorem E_inside {ks : List Nat} : ∀ (d p m e x : Nat), x - p = d → E ks p m = some e → p ≤ x → x < e → ∃ e', E ks x 1 = some e' ∧ e' ≤ e := by
 intro d
 induction d with
 | zero =>
  intro p m e x hd h h1 h2
  have : x = p := by omega
  subst this
  have hm : 1 ≤ m := by
   rcases Nat.eq_zero_or_pos m with h0 | h0
   ·subst h0; rw [E_zero] at h; injection h with h; omega
   ·exact h0
  obtain ⟨q, hq, _, hle⟩ := E_part h hm
  exact ⟨q, hq, hle⟩
 | succ d ih =>
  intro p m e x hd h h1 h2
  have hm : 1 ≤ m := by
   rcases Nat.eq_zero_or_pos m with h0 | h0
   ·subst h0; rw [E_zero] at h; injection h with h; omega
   ·exact h0
  have hp : p < ks.length := by have := (E_bounds h).2 hm; omega
  obtain ⟨m', rfl⟩ : ∃ m', m = m' + 1 := ⟨m - 1, by omega⟩
  rw [E_step hp] at h
  exact ih (p + 1) _ e x (by omega) h (by omega) h2
theorem Kid.lt {ks : List Nat} {P i j : Nat} (h : Kid ks P i j) : P < j := by
 have := (E_bounds h.2.2).1
 omega
theorem Kid.end_gt {ks : List Nat} {P i j e : Nat} (h : Kid ks P i j) (he : E ks P 1 = some e) : j < e := E_lt h.2.2 (E_one he).2 h.2.1
theorem Kid.unique {ks : List Nat} {P P' i i' j : Nat} (h : Kid ks P i j) (h' : Kid ks P' i' j) : P = P' ∧ i = i' := by
 have key : ∀ {P P' i i' : Nat}, Kid ks P i j → Kid ks P' i' j → ¬ P < P' := by
  intro P P' i i' h h' hlt
  obtain ⟨e', he', hle⟩ := E_inside _ _ _ _ P' rfl h.2.2 (by omega) h'.lt
  have := h'.end_gt he'
  omega
 have hP : P = P' := by have := key h h'; have := key h' h; omega
 subst hP
 refine ⟨rfl, ?_⟩
 rcases Nat.lt_trichotomy i i' with hi | hi | hi
 ·have := E_lt h.2.2 h'.2.2 hi; omega
 ·exact hi
 ·have := E_lt h'.2.2 h.2.2 hi; omega
structure Nd where
 id : Int
 kids : Nat
 ok : Bool → Bool
def dropz : List Nat → List Nat
 | [] => []
 | k :: r => if k = 0 then dropz r else k :: r
def dec : List Nat → List Nat
 | [] => []
 | k :: r => (k - 1) :: r
def iloop : Bool → List Int → List Nat → List Nd → Bool
 | _, _, left, [] => left.all (fun k => k == 0)
 | first, seen, left, x :: xs =>
  if !x.ok first || seen.contains x.id then false
  else if (!first && (dropz left).isEmpty) || decide (400 < (dropz left).length) then false
  else iloop false (seen ++ [x.id]) (x.kids :: dec (dropz left)) xs
def sloop : Bool → List Int → List Nat → List Nd → Bool
 | _, _, _, [] => true
 | first, seen, left, x :: xs =>
  if !x.ok first || decide (400 < left.length) || seen.contains x.id then false
  else sloop false (seen ++ [x.id]) (dropz (x.kids :: dec left)) xs
def sum (l : List Nat) : Nat := l.foldr (· + ·) 0
theorem dropz_sum : ∀ l : List Nat, sum (dropz l) = sum l
 | [] => rfl
 | k :: r => by
  unfold dropz
  split
  ·rename_i h; rw [dropz_sum r]; simp [sum, h]
  ·rfl
theorem dropz_idem : ∀ l : List Nat, dropz (dropz l) = dropz l
 | [] => rfl
 | k :: r => by
  by_cases h : k = 0
  ·simp only [dropz, h, if_true]; exact dropz_idem r
  ·simp [dropz, h]
theorem dropz_head : ∀ (l : List Nat) (k : Nat) (r : List Nat), dropz l = k :: r → 0 < k
 | [], _, _, h => by simp [dropz] at h
 | a :: l, k, r, h => by
  unfold dropz at h
  split at h
  ·exact dropz_head l k r h
  ·injection h with h1 h2; omega
theorem dropz_length : ∀ l : List Nat, (dropz l).length ≤ l.length
 | [] => Nat.le_refl _
 | k :: r => by
  unfold dropz
  split
  ·have := dropz_length r; simp; omega
  ·exact Nat.le_refl _
theorem dropz_mem : ∀ (l : List Nat) (a : Nat), a ∈ dropz l → a ∈ l
 | [], _, h => h
 | k :: r, a, h => by
  unfold dropz at h
  split at h
  ·exact List.mem_cons_of_mem _ (dropz_mem r a h)
  ·exact h
theorem all_zero : ∀ l : List Nat, l.all (fun k => k == 0) = decide (sum l = 0)
 | [] => rfl
 | k :: r => by
  rw [List.all_cons, all_zero r, Bool.eq_iff_iff]
  show _ ↔ decide (k + sum r = 0) = true
  simp only [Bool.and_eq_true, beq_iff_eq, decide_eq_true_eq]
  omega
theorem fin_shift : ∀ (ks : List Nat) (m p : Nat), fin ks m (p + 1) = (fin ks m p).map (· + 1)
 | ks, 0, p => by simp [fin_zero]
 | [], m + 1, p => rfl
 | k :: ks, m + 1, p => by simp only [fin]; exact fin_shift ks (k + m) (p + 1)
theorem iloop_sloop : ∀ (xs : List Nd) (seen : List Int) (left : List Nat),
  iloop false seen left xs = (sloop false seen (dropz left) xs && decide (fin (xs.map Nd.kids) (sum left) 0 = some xs.length))
 | [], seen, left => by
  simp only [iloop, sloop, all_zero, List.map_nil, List.length_nil, Bool.true_and]
  cases h : sum left with
  | zero => simp [fin]
  | succ m => simp [fin]
 | x :: xs, seen, left => by
  simp only [iloop, sloop]
  cases hd : dropz left with
  | nil =>
   have hs : sum left = 0 := by rw [← dropz_sum, hd]; rfl
   simp [hs, fin_zero]
  | cons k r =>
   have hk := dropz_head _ _ _ hd
   have hs : sum left = k + sum r := by rw [← dropz_sum, hd]; rfl
   by_cases h1 : x.ok false = true <;> by_cases h2 : x.id ∈ seen <;> simp [h1, h2]
   by_cases h4 : 400 < r.length + 1
   ·simp [h4]
   have h4' : decide (400 < r.length + 1) = false := decide_eq_false h4
   rw [h4', iloop_sloop xs]
   simp only [Bool.not_false, Bool.true_and]
   congr 1
   obtain ⟨m, rfl⟩ : ∃ m, k = m + 1 := ⟨k - 1, by omega⟩
   rw [hs, show m + 1 + sum r = (m + sum r) + 1 from by omega]
   simp only [fin, Nat.zero_add, dec, Nat.add_sub_cancel, fin_shift, sum, List.foldr_cons]
   rw [show x.kids + (m + List.foldr (· + ·) 0 r) = x.kids + (m + List.foldr (· + ·) 0 r) from rfl]
   cases fin (xs.map Nd.kids) (x.kids + (m + List.foldr (· + ·) 0 r)) 0 <;> simp
end Go.Proofs.YthjgohbkpjhkeaaGreatDoor.Tr
namespace Go.Proofs.YthjgohbkpjhkeaaGreatDoor.Fo
open Go.Proofs.YthjgohbkpjhkeaaGreatDoor.Tr
inductive Fo (P : Type) where
 | nil : Fo P
 | node (x : P) (k r : Fo P) : Fo P
section
variable {P : Type}
def len : Fo P → Nat
 | .nil => 0
 | .node _ _ r => len r + 1
def tops : Fo P → List P
 | .nil => []
 | .node x _ r => x :: tops r
def flat : Fo P → List (P × Nat)
 | .nil => []
 | .node x k r => (x, len k) :: (flat k ++ flat r)
def app : Fo P → Fo P → Fo P
 | .nil, g => g
 | .node x k r, g => .node x k (app r g)
def ftake : Nat → Fo P → Fo P
 | 0, _ => .nil
 | _ + 1, .nil => .nil
 | i + 1, .node x k r => .node x k (ftake i r)
def fdrop : Nat → Fo P → Fo P
 | 0, f => f
 | _ + 1, .nil => .nil
 | i + 1, .node _ _ r => fdrop i r
theorem tops_length : ∀ f : Fo P, (tops f).length = len f
 | .nil => rfl
 | .node x k r => by simp [tops, len, tops_length r]
theorem len_app : ∀ f g : Fo P, len (app f g) = len f + len g
 | .nil, g => by simp [app, len]
 | .node x k r, g => by simp only [app, len, len_app r g]; omega
theorem tops_app : ∀ f g : Fo P, tops (app f g) = tops f ++ tops g
 | .nil, g => rfl
 | .node x k r, g => by simp [app, tops, tops_app r g]
theorem flat_app : ∀ f g : Fo P, flat (app f g) = flat f ++ flat g
 | .nil, g => rfl
 | .node x k r, g => by simp [app, flat, flat_app r g]
theorem app_nil : ∀ f : Fo P, app f .nil = f
 | .nil => rfl
 | .node x k r => by rw [app, app_nil r]
theorem take_drop : ∀ (i : Nat) (f : Fo P), app (ftake i f) (fdrop i f) = f
 | 0, f => rfl
 | _ + 1, .nil => rfl
 | i + 1, .node x k r => by simp [ftake, fdrop, app, take_drop i r]
theorem len_take : ∀ (i : Nat) (f : Fo P), i ≤ len f → len (ftake i f) = i
 | 0, f, _ => rfl
 | _ + 1, .nil, h => by simp [len] at h
 | i + 1, .node x k r, h => by simp only [ftake, len] at h ⊢; rw [len_take i r (by omega)]
theorem len_drop (i : Nat) (f : Fo P) (h : i ≤ len f) : len (fdrop i f) = len f - i := by
 have := congrArg len (take_drop i f)
 rw [len_app, len_take i f h] at this
 omega
theorem tops_take : ∀ (i : Nat) (f : Fo P), tops (ftake i f) = (tops f).take i
 | 0, f => by simp [ftake, tops]
 | _ + 1, .nil => rfl
 | i + 1, .node x k r => by simp [ftake, tops, tops_take i r]
theorem tops_drop : ∀ (i : Nat) (f : Fo P), tops (fdrop i f) = (tops f).drop i
 | 0, f => rfl
 | _ + 1, .nil => rfl
 | i + 1, .node x k r => by simp [fdrop, tops, tops_drop i r]
theorem drop_node : ∀ (i : Nat) (f : Fo P), i < len f → ∃ x k, fdrop i f = .node x k (fdrop (i + 1) f) ∧ (tops f)[i]? = some x
 | 0, .nil, h => by simp [len] at h
 | 0, .node x k r, _ => ⟨x, k, rfl, rfl⟩
 | _ + 1, .nil, h => by simp [len] at h
 | i + 1, .node x k r, h => by
  simp only [len] at h
  obtain ⟨y, l, h1, h2⟩ := drop_node i r (by omega)
  exact ⟨y, l, h1, by simpa [tops] using h2⟩
def ks (l : List (P × Nat)) : List Nat := l.map (·.2)
theorem fin_flat : ∀ (f : Fo P) (t : List Nat) (m p : Nat), Tr.fin (ks (flat f) ++ t) (len f + m) p = Tr.fin t m (p + (flat f).length)
 | .nil, t, m, p => by simp [flat, ks, len]
 | .node x k r, t, m, p => by
  have h1 := fin_flat k (ks (flat r) ++ t) (len r + m) (p + 1)
  have h2 := fin_flat r t m (p + 1 + (flat k).length)
  simp only [flat, ks, List.map_cons, List.map_append, List.cons_append, List.append_assoc, List.length_cons, List.length_append, len] at *
  rw [show len r + 1 + m = (len r + m) + 1 from by omega]
  simp only [Tr.fin]
  rw [h1, h2]
  congr 1
  omega
theorem E_flat (A B : List Nat) (f : Fo P) : E (A ++ (ks (flat f) ++ B)) A.length (len f) = some (A.length + (flat f).length) := by
 unfold E
 rw [List.drop_left]
 have := fin_flat f B 0 A.length
 simp only [Nat.add_zero, fin_zero] at this
 exact this
def upd (q : P → Bool) (x' : P → P) (g : Fo P → Fo P) : Fo P → Fo P
 | .nil => .nil
 | .node x k r => if q x then .node (x' x) (g k) r else .node x (upd q x' g k) (upd q x' g r)
inductive Sub : Fo P → P → Fo P → Prop
 | here (x : P) (k r : Fo P) : Sub (.node x k r) x k
 | kid (x : P) (k r : Fo P) (y : P) (l : Fo P) : Sub k y l → Sub (.node x k r) y l
 | next (x : P) (k r : Fo P) (y : P) (l : Fo P) : Sub r y l → Sub (.node x k r) y l
theorem upd_none (q : P → Bool) (x' : P → P) (g : Fo P → Fo P) : ∀ f : Fo P, (∀ y ∈ flat f, q y.1 = false) → upd q x' g f = f
 | .nil, _ => rfl
 | .node x k r, h => by
  have h0 := h (x, len k) (by simp [flat])
  simp only [upd, h0, Bool.false_eq_true, if_false]
  rw [upd_none q x' g k (fun y hy => h y (by simp [flat, hy])), upd_none q x' g r (fun y hy => h y (by simp [flat, hy]))]
theorem len_upd (q : P → Bool) (x' : P → P) (g : Fo P → Fo P) : ∀ f : Fo P, len (upd q x' g f) = len f
 | .nil => rfl
 | .node x k r => by
  unfold upd
  split
  ·rfl
  ·simp only [len, len_upd q x' g r]
def grow (pay : Nat → P) (kk : List Nat) : Nat → Nat → Nat → Fo P
 | 0, _, _ => .nil
 | _ + 1, _, 0 => .nil
 | d + 1, p, m + 1 => .node (pay p) (grow pay kk d (p + 1) (kk.getD p 0)) (grow pay kk d ((E kk (p + 1) (kk.getD p 0)).getD 0) m)
theorem grow_flat (pay : Nat → P) (kk : List Nat) : ∀ (d p m e : Nat), E kk p m = some e → e - p ≤ d →
  len (grow pay kk d p m) = m ∧ flat (grow pay kk d p m) = (List.range' p (e - p)).map (fun j => (pay j, kk.getD j 0))
 | d, p, 0, e, h, hd => by
  rw [E_zero] at h
  injection h with h
  subst h
  cases d <;> simp [grow, len, flat]
 | 0, p, m + 1, e, h, hd => by
  have := (E_bounds h).2 (by omega)
  omega
 | d + 1, p, m + 1, e, h, hd => by
  have hb := (E_bounds h).2 (by omega)
  have hp : p < kk.length := by omega
  have h' := h
  rw [E_step hp, E_add] at h'
  cases hq : E kk (p + 1) (kk.getD p 0) with
  | none => rw [hq] at h'; cases h'
  | some q =>
   rw [hq] at h'
   simp only [Option.bind_some] at h'
   have hq1 := E_bounds hq
   have hq2 := E_bounds h'
   obtain ⟨a1, a2⟩ := grow_flat pay kk d (p + 1) (kk.getD p 0) q hq (by omega)
   obtain ⟨b1, b2⟩ := grow_flat pay kk d q m e h' (by omega)
   simp only [grow, hq, Option.getD_some, len, flat, a1, a2, b1, b2]
   refine ⟨trivial, ?_⟩
   rw [← List.map_append]
   have e1 : List.range' (p + 1) (q - (p + 1)) ++ List.range' q (e - q) = List.range' (p + 1) (e - (p + 1)) := by
    have := List.range'_append_1 (s := p + 1) (m := q - (p + 1)) (n := e - q)
    rw [show p + 1 + (q - (p + 1)) = q from by omega, show q - (p + 1) + (e - q) = e - (p + 1) from by omega] at this
    exact this
   rw [e1, show e - p = (e - (p + 1)) + 1 from by omega]
   rfl
end
end Go.Proofs.YthjgohbkpjhkeaaGreatDoor.Fo
