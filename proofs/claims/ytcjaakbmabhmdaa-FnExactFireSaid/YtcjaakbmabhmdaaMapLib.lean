/- A map that the call itself has made, as a list of keys and values: what a look-up and a store come to. Keys of one enc. -/
import Derived.WalkKit
import Derived.Maps.OwnOps
import Derived.Laws.StructEq
namespace Go.Proofs.Ytcjaakbmabhmdaa.MapLib
open Go.RowKit

/-- The keys' kind: plain, told apart by sameNow, kept by sameBits. -/
structure KeyEnc (P : Program) {α : Type} [DecidableEq α] (kt : TypeId) (enc : α → Value) : Prop where
  kind : ∃ d, P.underlying kt = some d ∧ (∀ a b, Instr.sameNow d (enc a) (enc b) = some (decide (a = b))) ∧ (∀ e n v w, (Instr.checkKey e (n + 1) kt v).run P w = .ok () w)
  bits : ∀ n a, Instr.sameBits n (enc a) (enc a) = true

theorem check_plain {P : Program} {kt : TypeId} {d : TypeDesc} (hd : P.underlying kt = some d) (h : (∃ k, d = .int k) ∨ d = .string) (e : Bool) (n : Nat) (v : Value) (w : World) :
    (Instr.checkKey e (n + 1) kt v).run P w = .ok () w := by
  rcases h with ⟨k, rfl⟩ | rfl <;> simp [Instr.checkKey, run_underlying hd]

theorem key_int {P : Program} {kt : TypeId} {k : IntKind} (h : P.underlying kt = some (.int k)) : KeyEnc P kt (fun n : Int => Value.int k n) where
  kind := ⟨_, h, fun a b => by simp [Instr.sameNow]; exact Bool.beq_eq_decide_eq a b, fun e n v w => check_plain h (.inl ⟨k, rfl⟩) e n v w⟩
  bits := fun n a => by cases n <;> simp [Instr.sameBits]

theorem bytes_beq (a b : ByteArray) : (a == b) = decide (a = b) := by
  rw [Go.beq_toListBytes, Bool.eq_iff_iff, beq_iff_eq, decide_eq_true_eq, ByteArray.toList_eq, ByteArray.toList_eq]
  constructor
  · intro h
    obtain ⟨⟨x⟩⟩ := a
    obtain ⟨⟨y⟩⟩ := b
    simpa using h
  · intro h; rw [h]
theorem key_string {P : Program} {kt : TypeId} (h : P.underlying kt = some .string) : KeyEnc P kt (fun n : ByteArray => Value.string n) where
  kind := ⟨_, h, fun a b => by simp [Instr.sameNow, bytes_beq], fun e n v w => check_plain h (.inr rfl) e n v w⟩
  bits := fun n a => by cases n <;> simp [Instr.sameBits, bytes_beq]

section
variable {α : Type} {enc : α → Value}
/-- Block b of w is a map that holds m, in order. -/
def MapIs (enc : α → Value) (w : World) (b : Nat) (m : List (α × Value)) : Prop :=
  ∃ (bs : List Nat) (clock : Nat), bs.length = m.length ∧
    w.heap[b]? = some (.map ((m.zip bs).map (fun p => ({ key := enc p.1.1, val := p.1.2, born := p.2 } : MapEntry))).toArray clock)
theorem blk_newest (w : World) (o : Obj) : (w.alloc o).heap[w.heap.size]? = some o := by
  show (w.heap.push o)[w.heap.size]? = some o
  simp
theorem cell_newest (w : World) (cs : Array Value) (t : TypeId) (fr : Nat × Nat) (j : Nat) : (w.alloc (.cells cs t fr)).cell? ⟨w.heap.size, j, none⟩ = cs[j]? := by
  simp only [World.cell?]
  rw [blk_newest]
  rfl
theorem MapIs.made (w : World) : MapIs enc (w.alloc (.map #[] 0)) w.heap.size ([] : List (α × Value)) :=
  ⟨[], 0, rfl, blk_newest w _⟩
theorem MapIs.lt {w : World} {b : Nat} {m : List (α × Value)} (h : MapIs enc w b m) : b < w.heap.size := by
  obtain ⟨bs, clock, _, hb⟩ := h
  exact (Array.getElem?_eq_some_iff.1 hb).1
theorem MapIs.kept {w w' : World} {b : Nat} {m : List (α × Value)} (h : MapIs enc w b m) (hk : w'.heap[b]? = w.heap[b]?) : MapIs enc w' b m := by
  obtain ⟨bs, clock, hl, hb⟩ := h
  exact ⟨bs, clock, hl, hk.trans hb⟩
theorem MapIs.below {w w' : World} {b : Nat} {m : List (α × Value)} (h : MapIs enc w b m) (hb : Below w.heap.size w w') : MapIs enc w' b m := h.kept (hb.block b h.lt)
end
section
variable {P : Program} {α : Type} [DecidableEq α] {kt et mt : TypeId} {enc : α → Value}

def mlook (m : List (α × Value)) (k : α) : Option Value := (m.find? (fun p => decide (k = p.1))).map (·.2)

theorem findNow_zip {d : TypeDesc} (hd : ∀ a b, Instr.sameNow d (enc a) (enc b) = some (decide (a = b))) (k : α) :
    ∀ (m : List (α × Value)) (bs : List Nat) (i : Nat), bs.length = m.length →
      Instr.findNow d (enc k) ((m.zip bs).map (fun p => ({ key := enc p.1.1, val := p.1.2, born := p.2 } : MapEntry))) i =
        some ((m.findIdx? (fun p => decide (k = p.1))).bind (fun j => (m[j]?).map (fun p => (i + j, p.2))))
  | [], bs, i, _ => by simp [Instr.findNow]
  | p :: m, [], i, h => by simp at h
  | p :: m, b :: bs, i, h => by
    simp only [List.zip_cons_cons, List.map_cons, Instr.findNow, hd]
    by_cases hk : k = p.1
    · simp [hk, List.findIdx?_cons]
    · rw [findNow_zip hd k m bs (i + 1) (by simpa using h)]
      simp only [hk, decide_false, List.findIdx?_cons, Bool.false_eq_true, if_false]
      cases hf : m.findIdx? (fun p => decide (k = p.1)) with
      | none => simp
      | some j => simp [Nat.add_assoc, Nat.add_comm 1 j]

theorem findIdx_look (m : List (α × Value)) (k : α) :
    ((m.findIdx? (fun p => decide (k = p.1))).bind (fun j => (m[j]?).map (fun p => p.2))) = mlook m k := by
  induction m with
  | nil => simp [mlook]
  | cons p m ih =>
    unfold mlook at ih ⊢
    by_cases hk : k = p.1
    · simp [hk, List.findIdx?_cons]
    · simp only [List.findIdx?_cons, hk, decide_false, Bool.false_eq_true, if_false, List.find?_cons]
      rw [← ih]
      cases hf : m.findIdx? (fun p => decide (k = p.1)) with
      | none => simp
      | some j => simp

theorem run_lookup {w : World} {b : Nat} {m : List (α × Value)} (K : KeyEnc P kt enc) (ht : P.underlying mt = some (.map kt et)) {z : Value}
    (hz : (zeroValue et).run P w = .ok z w) (h : MapIs enc w b m) (k : α) :
    (Instr.lookup mt (.map (some b)) (enc k) false).run P w = .ok ((mlook m k).getD z) w := by
  obtain ⟨bs, clock, hl, hb⟩ := h
  obtain ⟨d, hd, hs, hc⟩ := K.kind
  have hf := findNow_zip hs k m bs 0 hl
  have hg : (getObj b).run P w = .ok (.map ((m.zip bs).map (fun p => ({ key := enc p.1.1, val := p.1.2, born := p.2 } : MapEntry))).toArray clock) w := by
    simp [getObj, Sem.run, hb]
  have hc' := fun e v => hc e 9999 v w
  have hlk := findIdx_look m k
  cases hfi : m.findIdx? (fun p => decide (k = p.1)) with
  | none =>
    rw [hfi] at hf hlk
    simp only [Option.bind_none] at hf hlk
    simp [Instr.lookup, run_underlying ht, hg, hc', Instr.findKey, run_underlying hd, hf, hz, ← hlk]
  | some j =>
    rw [hfi] at hf hlk
    have hj : j < m.length := (List.findIdx?_eq_some_iff_getElem.1 hfi).1
    simp only [Option.bind_some, List.getElem?_eq_getElem hj, Option.map_some, Nat.zero_add] at hf hlk
    simp [Instr.lookup, run_underlying ht, hg, hc', Instr.findKey, run_underlying hd, hf, ← hlk]

/-- With the comma: the second says whether the key is there. -/
theorem run_lookup_ok {w : World} {b : Nat} {m : List (α × Value)} (K : KeyEnc P kt enc) (ht : P.underlying mt = some (.map kt et)) {z : Value}
    (hz : (zeroValue et).run P w = .ok z w) (h : MapIs enc w b m) (k : α) :
    (Instr.lookup mt (.map (some b)) (enc k) true).run P w = .ok (.tuple #[(mlook m k).getD z, .bool (mlook m k).isSome]) w := by
  obtain ⟨bs, clock, hl, hb⟩ := h
  obtain ⟨d, hd, hs, hc⟩ := K.kind
  have hf := findNow_zip hs k m bs 0 hl
  have hg : (getObj b).run P w = .ok (.map ((m.zip bs).map (fun p => ({ key := enc p.1.1, val := p.1.2, born := p.2 } : MapEntry))).toArray clock) w := by
    simp [getObj, Sem.run, hb]
  have hc' := fun e v => hc e 9999 v w
  have hlk := findIdx_look m k
  cases hfi : m.findIdx? (fun p => decide (k = p.1)) with
  | none =>
    rw [hfi] at hf hlk
    simp only [Option.bind_none] at hf hlk
    simp [Instr.lookup, run_underlying ht, hg, hc', Instr.findKey, run_underlying hd, hf, hz, ← hlk]
  | some j =>
    rw [hfi] at hf hlk
    have hj : j < m.length := (List.findIdx?_eq_some_iff_getElem.1 hfi).1
    simp only [Option.bind_some, List.getElem?_eq_getElem hj, Option.map_some, Nat.zero_add] at hf hlk
    simp [Instr.lookup, run_underlying ht, hg, hc', Instr.findKey, run_underlying hd, hf, ← hlk]

/-- A store under a key that isn't there. -/
theorem run_store_new {w : World} {b : Nat} {m : List (α × Value)} (K : KeyEnc P kt enc) (ht : P.underlying mt = some (.map kt et))
    (h : MapIs enc w b m) (k : α) (v : Value) (hn : mlook m k = none) :
    ∃ w', (Instr.mapUpdate mt (.map (some b)) (enc k) v).run P w = .ok () w' ∧ MapIs enc w' b (m ++ [(k, v)]) ∧ w.grownBy w' (some b) := by
  obtain ⟨bs, clock, hl, hb⟩ := h
  obtain ⟨d, hd, hs, hc⟩ := K.kind
  have hf := findNow_zip hs k m bs 0 hl
  have hg : (getObj b).run P w = .ok (.map ((m.zip bs).map (fun p => ({ key := enc p.1.1, val := p.1.2, born := p.2 } : MapEntry))).toArray clock) w := by
    simp [getObj, Sem.run, hb]
  have hc' := fun e v => hc e 9999 v w
  have hfi : m.findIdx? (fun p => decide (k = p.1)) = none := by
    rw [List.findIdx?_eq_none_iff]
    intro p hp
    unfold mlook at hn
    simp only [Option.map_eq_none_iff, List.find?_eq_none] at hn
    simpa using hn p hp
  rw [hfi] at hf
  simp only [Option.bind_none] at hf
  have hlt : b < w.heap.size := (Array.getElem?_eq_some_iff.1 hb).1
  refine ⟨{ w with heap := w.heap.setIfInBounds b (.map (((m.zip bs).map (fun p => ({ key := enc p.1.1, val := p.1.2, born := p.2 } : MapEntry))).toArray.push { key := enc k, val := v, born := clock }) (clock + 1)) }, ?_, ?_, ?_⟩
  · simp [Instr.mapUpdate, run_underlying ht, hg, hc', Instr.findKey, run_underlying hd, hf, setObj, Sem.run, hb]
  · refine ⟨bs ++ [clock], clock + 1, by simp [hl], ?_⟩
    simp only [Array.getElem?_setIfInBounds, if_pos hlt]
    simp [List.zip_append hl.symm]
  · exact ⟨rfl, rfl, rfl, by simp, fun i hi hne => by
      simp only [Array.getElem?_setIfInBounds]
      rw [if_neg (fun e => hne (by rw [e]))]⟩

theorem mlook_append (m : List (α × Value)) (k k' : α) (v : Value) : mlook (m ++ [(k, v)]) k' = (mlook m k').or (if k' = k then some v else none) := by
  unfold mlook
  rw [List.find?_append]
  cases h : m.find? (fun p => decide (k' = p.1)) with
  | some x => simp
  | none =>
    by_cases e : k' = k <;> simp [e]

theorem mlook_nil (k : α) : mlook ([] : List (α × Value)) k = none := rfl
end

section
variable {P : Program} {ops : Array Oper} {rest : List Oper} {o : Oper} {a : Act} {Q : Exit → Act → World → Prop} {α : Type} [DecidableEq α] {enc : α → Value}

theorem wp_lookup (w : World) (hg : o.guard = none) (m x : Operand) (mt kt et : TypeId) (hop : o.op = Op.lookup mt m x false)
    (K : KeyEnc P kt enc) (ht : P.underlying mt = some (.map kt et)) (z : Value) (hz : (zeroValue et).run P w = .ok z w) (b : Nat) (l : List (α × Value))
    (hm : a.eval m = .map (some b)) (h : MapIs enc w b l) (k : α) (hx : a.eval x = enc k)
    (hK : wpList P ops Q rest (a.put o.dst ((mlook l k).getD z)) w) : wpList P ops Q (o :: rest) a w := by
  refine wpList_plain hg fun K' hK' => ?_
  have hrun := run_lookup K ht hz h k
  unfold Oper.wp
  simp [execOp, hop, hm, hx, hrun, Result.andThen]
  exact hK' _ _ hK

theorem wp_lookup_ok (w : World) (hg : o.guard = none) (m x : Operand) (mt kt et : TypeId) (hop : o.op = Op.lookup mt m x true)
    (K : KeyEnc P kt enc) (ht : P.underlying mt = some (.map kt et)) (z : Value) (hz : (zeroValue et).run P w = .ok z w) (b : Nat) (l : List (α × Value))
    (hm : a.eval m = .map (some b)) (h : MapIs enc w b l) (k : α) (hx : a.eval x = enc k)
    (hK : wpList P ops Q rest (a.put o.dst (.tuple #[(mlook l k).getD z, .bool (mlook l k).isSome])) w) : wpList P ops Q (o :: rest) a w := by
  refine wpList_plain hg fun K' hK' => ?_
  have hrun := run_lookup_ok K ht hz h k
  unfold Oper.wp
  simp [execOp, hop, hm, hx, hrun, Result.andThen]
  exact hK' _ _ hK

theorem wp_store_new (w : World) (hg : o.guard = none) (m x v : Operand) (mt kt et : TypeId) (hop : o.op = Op.mapUpdate mt m x v)
    (K : KeyEnc P kt enc) (ht : P.underlying mt = some (.map kt et)) (b : Nat) (l : List (α × Value))
    (hm : a.eval m = .map (some b)) (h : MapIs enc w b l) (k : α) (hx : a.eval x = enc k) (val : Value) (hv : a.eval v = val) (hn : mlook l k = none)
    (hK : ∀ w', MapIs enc w' b (l ++ [(k, val)]) → w.grownBy w' (some b) → wpList P ops Q rest (a.put o.dst undef) w') : wpList P ops Q (o :: rest) a w := by
  refine wpList_plain hg fun K' hK' => ?_
  obtain ⟨w', hrun, r1, r2⟩ := run_store_new K ht h k val hn
  unfold Oper.wp
  simp [execOp, hop, hm, hx, hv, hrun, Result.andThen]
  exact hK' _ _ (hK w' r1 r2)
end
end Go.Proofs.Ytcjaakbmabhmdaa.MapLib
