/- Part 7 of the proof: DoCode, DoParts, DoLook, DoGoal, DoHolds, DoWhole. -/
import Derived.Test.YthjgohbkpjhkeaaGreatDoorA1
import Derived.Test.YthjgohbkpjhkeaaGreatDoorA6
import Derived.Test.YthjgohbkpjhkeaaGreatDoorX0
import Derived.Test.YthjgohbkpjhkeaaGreatDoorA4
import Derived.Test.YthjgohbkpjhkeaaGreatDoorA2
import Derived.Deep.QuietTactic
import Derived.BigQuiet
import Derived.LaidEqlPtr
set_option linter.unusedVariables false
set_option linter.unusedSimpArgs false
set_option maxHeartbeats 4000000
set_option maxRecDepth 100000
namespace Go.Proofs.YthjgohbkpjhkeaaGreatDoor.Err
open Go.RowKit Go.Extern.Stop Go.Stop Go.Extern Go.Proofs.YthjgohbkpjhkeaaGreatDoorW.PrintWords
abbrev ErrVar (w : World) : Prop := w.cell? ⟨0, 0, none⟩ = some (.iface 193 (.agg #[.pointer (some ⟨1, 76, none⟩)]))
theorem as_of (T : TypeId) (p e t : Addr) (old : Value) (w : World) (hg : ErrVar w) (ht0 : w.cell? t = some old) (hf0 : w.frozen? t = false)
  (h : ∀ (W : World) (a : Addr), Below w.heap.size w W → W.cell? a = some (.pointer (some t)) → Calls Tryz.prog 108 #[.iface T (.pointer (some p)), .iface 129 (.pointer (some t)), valT a, hndR] W fun ev w' => ev = .returned (.bool true) ∧ w' = ((W.alloc (boxV a)).alloc (.cells #[.pointer (some e)] 127)).setCell t (.pointer (some e))) :
  Calls Tryz.prog 78 #[.iface T (.pointer (some p)), .iface 129 (.pointer (some t))] w fun ev w' => ev = .returned (.bool true) ∧ ∃ W, Below w.heap.size w W ∧ w' = W.setCell t (.pointer (some e)) := by
 have h6 := @run_callFunc_extern Tryz.prog 105 _ (fun args => ReflectliteValue.unpack (args.getD 0 (.tuple #[]))) Tryz.func105 (by kernel_rfl) (by kernel_rfl) (by kernel_rfl) (by kernel_rfl)
 have h7 := @run_callFunc_extern Tryz.prog 106 _ (ReflectliteValue.methodAny (ReflectliteValue.valueError "reflectlite.Value.Type" 0) (fun t _ _ _ => ReflectliteType.toType t)) Tryz.func106 (by kernel_rfl) (by kernel_rfl) (by kernel_rfl) (by kernel_rfl)
 have h8 := @run_callFunc_extern Tryz.prog 107 _ (ReflectliteValue.method (ReflectliteValue.valueError "reflectlite.Value.IsNil" 0) ReflectliteValue.isNil) Tryz.func107 (by kernel_rfl) (by kernel_rfl) (by kernel_rfl) (by kernel_rfl)
 have h27 := @run_callFunc_extern Tryz.prog 140 _ (ReflectliteType.abiMethod fun t => do pure (.int .u8 (← Rtype.kind t))) Tryz.func140 (by kernel_rfl) (by kernel_rfl) (by kernel_rfl) (by kernel_rfl)
 have h37 := @run_callFunc_extern Tryz.prog 191 _ (ReflectliteType.method ReflectliteType.elem) Tryz.func191 (by kernel_rfl) (by kernel_rfl) (by kernel_rfl) (by kernel_rfl)
 have h38 := @run_callFunc_extern Tryz.prog 192 _ (ReflectliteType.relation "Implements" ReflectliteType.implements_) Tryz.func192 (by kernel_rfl) (by kernel_rfl) (by kernel_rfl) (by kernel_rfl)
 have f6 := valueOfT
 have f7 := typeT
 have mK := methodKind
 have mE := methodElem
 have mI := methodImplements
 have k27 := kindT
 have k25 := kindR
 have e27 := elemT
 have i25 := implementsR
 have n8 := isNilT ⟨w.heap.size, 0, none⟩ t ((w.alloc (.cells #[.pointer (some t)] 129)).alloc (boxV ⟨w.heap.size, 0, none⟩)) (by simp)
 have hlt : 0 < w.heap.size := World.block_lt_of_cell? w _ hg
 have hg2 : ((w.alloc (.cells #[.pointer (some t)] 129)).alloc (boxV ⟨w.heap.size, 0, none⟩)).cell? ⟨0, 0, none⟩ = some (.iface 193 (.agg #[.pointer (some ⟨1, 76, none⟩)])) := by
  rw [World.cell?_alloc_lt _ _ ⟨0, 0, none⟩ (by simp), World.cell?_alloc_lt _ _ ⟨0, 0, none⟩ hlt]; exact hg
 have hb2 : Below w.heap.size w ((w.alloc (.cells #[.pointer (some t)] 129)).alloc (boxV ⟨w.heap.size, 0, none⟩)) := ((Below.refl _ w).alloc (Nat.le_refl _) _).alloc (by simp) _
 have hca : ((w.alloc (.cells #[.pointer (some t)] 129)).alloc (boxV ⟨w.heap.size, 0, none⟩)).cell? ⟨w.heap.size, 0, none⟩ = some (.pointer (some t)) := by
  rw [World.cell?_alloc_lt _ _ ⟨w.heap.size, 0, none⟩ (by simp)]
  simp
 have H := am (h _ _ hb2 hca)
 have HB := am hb2
 clear h hg ht0 hf0 hlt hca hb2
 unfold boxV valT hndR at *
 go_enter Tryz.func78, Tryz.ntmps78
 go_wp2_with (first | (go_at_call 108; refine (H.out).mono ?_; rintro ev w' ⟨rfl, hw'⟩; have HW := am hw'; clear hw'))
 go_ret
 refine ⟨rfl, _, ?_, HW.out⟩
 exact (HB.out.alloc (by simp; omega) _).alloc (by simp; omega) _
theorem code_nil (w : World) : Calls Tryz.prog 44 #[.nilIface] w fun ev w' => ev = .returned (.int .i64 0) ∧ Below w.heap.size w w' := by
 go_enter Tryz.func44, Tryz.ntmps44
 go_wp2_with (first | (go_at_call 78; refine (as_nil _ _).mono ?_; rintro ev w' ⟨rfl, rfl⟩))
 go_ret
 exact ⟨rfl, (Below.refl _ _).alloc (Nat.le_refl _) _⟩
theorem code_of (T : TypeId) (p : Addr) (r : Nat) (c : Int) (w : World) (hg : ErrVar w) (hr : w.cell? ⟨r, 0, none⟩ = some (.int .i64 c))
  (h : ∀ (W : World) (a t : Addr) (tv old : Value), Below w.heap.size w W → W.cell? a = some (.pointer (some t)) → W.cell? t = some old → W.frozen? t = false → Calls Tryz.prog 108 #[.iface T (.pointer (some p)), tv, valT a, hndR] W fun ev w' => ev = .returned (.bool true) ∧ w' = ((W.alloc (boxV a)).alloc (.cells #[.pointer (some ⟨r, 0, none⟩)] 127)).setCell t (.pointer (some ⟨r, 0, none⟩))) :
  Calls Tryz.prog 44 #[.iface T (.pointer (some p))] w fun ev w' => ev = .returned (.int .i64 c) ∧ Below w.heap.size w w' := by
 have hlt : 0 < w.heap.size := World.block_lt_of_cell? w _ hg
 have hrl : r < w.heap.size := World.block_lt_of_cell? w _ hr
 have ht : (w.alloc (.cells #[.pointer none] 127)).cell? ⟨w.heap.size, 0, none⟩ = some (.pointer none) := by simp
 have hf : (w.alloc (.cells #[.pointer none] 127)).frozen? ⟨w.heap.size, 0, none⟩ = false := by simp
 have hg2 : ErrVar (w.alloc (.cells #[.pointer none] 127)) := by
  unfold ErrVar
  rw [World.cell?_alloc_lt _ _ ⟨0, 0, none⟩ hlt]; exact hg
 have hb : Below w.heap.size w (w.alloc (.cells #[.pointer none] 127)) := (Below.refl _ w).alloc (Nat.le_refl _) _
 have H := am (as_of T p ⟨r, 0, none⟩ ⟨w.heap.size, 0, none⟩ _ _ hg2 ht hf (fun W a hW ha => h W a _ _ _ (below_step hb (hW.mono (by simp))) ha ((hW.cell (World.block_lt_of_cell? _ _ ht)).trans ht) ((hW.frozen (World.block_lt_of_cell? _ _ ht)).trans hf)))
 have HB := am hb
 have HR := am hr
 have HTF := am (And.intro ht hf)
 clear h hg hr hlt ht hf hg2 hb
 go_enter Tryz.func44, Tryz.ntmps44
 go_wp2_with fail
 refine (H.out).mono ?_
 rintro ev w' ⟨rfl, W, hW, rfl⟩
 have hrl : r < w.heap.size := World.block_lt_of_cell? w _ HR.out
 have hWw : Below w.heap.size w W := below_step HB.out hW
 have hc1 : (W.setCell ⟨w.heap.size, 0, none⟩ (.pointer (some ⟨r, 0, none⟩))).cell? ⟨w.heap.size, 0, none⟩ = some (.pointer (some ⟨r, 0, none⟩)) :=
  World.cell?_setCell_same' _ _ _ (by rw [(hW.cell (World.block_lt_of_cell? _ _ HTF.out.1)).trans HTF.out.1]; rfl)
 have hc2 : (W.setCell ⟨w.heap.size, 0, none⟩ (.pointer (some ⟨r, 0, none⟩))).cell? ⟨r, 0, none⟩ = some (.int .i64 c) := by
  rw [World.cell?_setCell_far _ _ _ _ (by simp; omega)]
  exact (hWw.cell hrl).trans HR.out
 have HW := am (hWw.setCell (Nat.le_refl w.heap.size) (p := ⟨w.heap.size, 0, none⟩) (.pointer (some ⟨r, 0, none⟩)))
 clear hW hWw hrl
 generalize World.setCell _ _ _ = W2 at hc1 hc2 HW ⊢
 go_wp2
 go_ret
 exact ⟨rfl, HW.out⟩
theorem code_refused (r : Nat) (c : Int) (w : World) (hg : ErrVar w) (hr : w.cell? ⟨r, 0, none⟩ = some (.int .i64 c)) :
  Calls Tryz.prog 44 #[.iface 127 (.pointer (some ⟨r, 0, none⟩))] w fun ev w' => ev = .returned (.int .i64 c) ∧ Below w.heap.size w w' :=
 code_of _ _ r c w hg hr (fun W a t tv old _ h1 h2 h3 => asHit _ a t tv old W h1 h2 h3)
theorem code_failed (f r : Nat) (c : Int) (w : World) (hg : ErrVar w) (hf : w.cell? ⟨f, 1, none⟩ = some (.iface 127 (.pointer (some ⟨r, 0, none⟩)))) (hr : w.cell? ⟨r, 0, none⟩ = some (.int .i64 c)) :
  Calls Tryz.prog 44 #[.iface 123 (.pointer (some ⟨f, 0, none⟩))] w fun ev w' => ev = .returned (.int .i64 c) ∧ Below w.heap.size w w' :=
 code_of _ _ r c w hg hr (fun W a t tv old hb h1 h2 h3 => asWrap f _ a t tv old W ((hb.cell (World.block_lt_of_cell? _ _ hf)).trans hf) h1 h2 h3)
end Go.Proofs.YthjgohbkpjhkeaaGreatDoor.Err
namespace Go.Proofs.YthjgohbkpjhkeaaGreatDoor.FireSpec
open Go.RowKit Go.Proofs.YthjgohbkpjhkeaaGreatDoorW.PrintWords Go.Proofs.YthjgohbkpjhkeaaGreatDoor.PFnExactDo Go.Proofs.YthjgohbkpjhkeaaGreatDoor.Tr
theorem treeOk_parts {ns : List Node} (h : treeOk ns = true) : 1 ≤ ns.length ∧ ns.length ≤ 4000 ∧ (∀ n ∈ ns, 0 ≤ n.f5) ∧ E (kids ns) 0 1 = some ns.length ∧ (∀ n ∈ ns, n.f5 ≤ ns.length) := by
 unfold treeOk at h
 rw [Bool.and_eq_true, decide_eq_true_eq] at h
 obtain ⟨⟨h1, h2, h3, h4⟩, _⟩ := h
 refine ⟨h1, h2, h3, by unfold E; exact h4, fun n hn => ?_⟩
 have key : ∀ (l : List Node) (m p e : Nat), fin (kids l) m p = some e → e = p + l.length → ∀ n ∈ l, kid n ≤ l.length := by
  intro l
  induction l with
  | nil => intro m p e h he n hn; simp at hn
  | cons a l ih =>
   intro m p e h he n hn
   cases m with
   | zero => rw [fin_zero] at h; injection h with h; simp at he; omega
   | succ m =>
    simp only [kids, List.map_cons, fin] at h
    have hb := fin_bounds _ _ _ _ h
    simp only [List.length_map, List.length_cons] at hb he ⊢
    rcases List.mem_cons.1 hn with e1 | hn
    ·rw [e1]; omega
    ·have := ih _ _ _ h (by omega) n hn; omega
 have := key ns 1 0 ns.length h4 (by omega) n hn
 have := h3 n hn
 unfold kid at *
 omega
end Go.Proofs.YthjgohbkpjhkeaaGreatDoor.FireSpec
namespace Go.Proofs.YthjgohbkpjhkeaaGreatDoor.Impl
open Go.RowKit Go.Proofs.YthjgohbkpjhkeaaGreatDoorW.PrintWords Go.Proofs.YthjgohbkpjhkeaaGreatDoor.PFnExactDo Go.Proofs.YthjgohbkpjhkeaaGreatDoor.FireSpec Go.Proofs.YthjgohbkpjhkeaaGreatDoor.Tr
theorem sloop_ids : ∀ (xs : List Nd) (f : Bool) (seen : List Int) (left : List Nat), sloop f seen left xs = true → seen.Nodup → (seen ++ xs.map (·.id)).Nodup
 | [], _, seen, _, _, h => by simpa using h
 | x :: xs, f, seen, left, h, hs => by
  unfold sloop at h
  split at h
  ·cases h
  ·rename_i hc
   simp only [Bool.or_eq_true, not_or, Bool.not_eq_true, List.contains_eq_mem, decide_eq_false_iff_not] at hc
   have := sloop_ids xs _ _ _ h (List.nodup_append.2 ⟨hs, by simp, fun a ha b hb => by simp at hb; subst hb; intro e; subst e; exact hc.2 ha⟩)
   simpa using this
theorem treeOk_nodup {ns : List S95} (h : treeOk ns = true) : (ns.map (·.f0)).Nodup := by
 unfold treeOk at h
 rw [Bool.and_eq_true] at h
 have := sloop_ids _ _ _ _ h.2 List.nodup_nil
 simpa [nds, Function.comp_def] using this
theorem place_none {ns : List S95} {id : Int} (h : place ns id = none) : id ∉ ns.map (·.f0) := by
 unfold place at h
 rw [List.findIdx?_eq_none_iff] at h
 intro hm
 obtain ⟨n, hn, e⟩ := List.mem_map.1 hm
 have := h n hn
 simp [e] at this
theorem place_some {ns : List S95} {id : Int} {j : Nat} (h : place ns id = some j) : j < ns.length ∧ (ns.getD j z95).f0 = id := by
 unfold place at h
 obtain ⟨hj, h1, _⟩ := List.findIdx?_eq_some_iff_getElem.1 h
 exact ⟨hj, by simpa [List.getD_eq_getElem?_getD, hj] using h1⟩
end Go.Proofs.YthjgohbkpjhkeaaGreatDoor.Impl
set_option maxHeartbeats 4000000
set_option maxRecDepth 100000
namespace Go.Proofs.YthjgohbkpjhkeaaGreatDoor.Impl
open Go.RowKit Go.Proofs.YthjgohbkpjhkeaaGreatDoorW.PrintWords Go.Proofs.YthjgohbkpjhkeaaGreatDoorW.PrintLast Go.Proofs.YthjgohbkpjhkeaaGreatDoorW.PrintMore Go.Proofs.YthjgohbkpjhkeaaGreatDoor.PFnExactDo Go.Proofs.YthjgohbkpjhkeaaGreatDoor.MapLib Go.Proofs.YthjgohbkpjhkeaaGreatDoor.FireSpec Go.Proofs.YthjgohbkpjhkeaaGreatDoor.Tr Go.Proofs.YthjgohbkpjhkeaaGreatDoor.Fo
structure Chg where
 f0 : Int
 f1 : Int
 f2 : Int
 f3 : Int
 f4 : ByteArray
 f5 : ByteArray
 f6 : Int
 f7 : List S95
abbrev chv (C : Chg) (A : Option Addr) (c : Nat) : Value := .agg #[.int .i64 C.f0, .int .i64 C.f1, .int .i64 C.f2, .int .i64 C.f3, .string C.f4, .string C.f5, .int .i64 C.f6, .slice A C.f7.length c]
def LookEnd (w : World) (code : Option Int) (e : Ending) (w' : World) : Prop :=
 Below w.heap.size w w' ∧ match code with
  | none => e = .returned .nilIface
  | some k => ∃ r, e = .returned (.iface 127 (.pointer (some ⟨r, 0, none⟩))) ∧ w.heap.size ≤ r ∧ w'.cell? ⟨r, 0, none⟩ = some (.int .i64 k)
theorem deny_calls (k : Int) (w : World) : Calls Tryz.prog 75 #[.int .i64 k] w fun e w' => e = .returned (.iface 127 (.pointer (some ⟨w.heap.size, 0, none⟩))) ∧ w' = w.alloc (.cells #[.int .i64 k] 131) := by
 go_enter Tryz.func75, Tryz.ntmps75
 go_wp2
 go_ret
 exact ⟨rfl, rfl⟩
theorem look_some {w w1 : World} (k : Int) {r : Nat} (hb : Below w.heap.size w w1) (hr : r = w1.heap.size) : LookEnd w (some k) (.returned (.iface 127 (.pointer (some ⟨r, 0, none⟩)))) (w1.alloc (.cells #[.int .i64 k] 131)) := by
 subst hr
 exact ⟨hb.alloc hb.size _, w1.heap.size, rfl, hb.size, by simp⟩
def lkv (ns : List S95) (bs : List Nat) (id : Int) : Value := match place ns id with | some j => ptr (bs.getD j 0) | none => .pointer none
def GMap (w : World) (g : Nat) (ns : List S95) (bs : List Nat) : Prop :=
 ∃ mb, w.heap[g]? = some (.cells #[ptr (bs.getD 0 0), .map (some mb)] 102 (0, 0)) ∧ MapIs (fun n : Int => Value.int .i64 n) w mb (gents ns bs ns.length)
theorem GMap.below {w w1 : World} {g : Nat} {ns : List S95} {bs : List Nat} (h : GMap w g ns bs) (hb : Below w.heap.size w w1) : GMap w1 g ns bs := by
 obtain ⟨mb, h1, h2⟩ := h
 exact ⟨mb, blk_below h1 hb, h2.below hb⟩
theorem GMap.of {ns : List S95} {R : World → Prop} {w : World} {g base : Nat} {bs : List Nat} {KV : Nat → Value} (h : Garden ns R w g base bs KV) : GMap w g ns bs := by
 obtain ⟨mb, h1, _, h3⟩ := h.blk
 exact ⟨mb, h1, h3⟩
theorem mlook_lkv {ns : List S95} {bs : List Nat} (hl : bs.length = ns.length) (hd : (ns.map (·.f0)).Nodup) (id : Int) : (mlook (gents ns bs ns.length) id).getD (.pointer none) = lkv ns bs id := by
 unfold lkv
 cases hp : place ns id with
 | none => rw [gents_no (place_none hp)]; rfl
 | some j =>
  have h1 := (place_some hp).1
  have h2 := gents_at hl hd h1
  rw [(place_some hp).2] at h2
  rw [h2]
  rfl
theorem GMap.facts {w : World} {g : Nat} {ns : List S95} {bs : List Nat} (h : GMap w g ns bs) (hl : bs.length = ns.length) (hd : (ns.map (·.f0)).Nodup) : ∃ mb, w.cell? ⟨g, 0, none⟩ = some (ptr (bs.getD 0 0)) ∧ w.cell? ⟨g, 1, none⟩ = some (.map (some mb)) ∧ ∀ (id : Int) (W : World), W.heap = w.heap → (Instr.lookup 100 (.map (some mb)) (.int .i64 id) false).run Tryz.prog W = .ok (lkv ns bs id) W := by
 obtain ⟨mb, h1, h2⟩ := h
 refine ⟨mb, blk_cell h1 0, blk_cell h1 1, fun id W hW => ?_⟩
 have h3 : MapIs (fun n : Int => Value.int .i64 n) W mb (gents ns bs ns.length) := h2.kept (by rw [hW])
 have := run_lookup keyI Tryz.underlying100 (z := .pointer none) (Tryz.zeroValue97 W) h3 id
 rw [mlook_lkv hl hd] at this
 exact this
theorem target_calls (w : World) (g : Nat) (ns : List S95) (bs : List Nat) (C : Chg) (A : Option Addr) (c : Nat) (hg : GMap w g ns bs) (hl : bs.length = ns.length) (hd : (ns.map (·.f0)).Nodup) :
  Calls Tryz.prog 163 #[.pointer (some ⟨g, 0, none⟩), chv C A c] w (LookEnd w (if (place ns C.f1).isSome then none else some 2)) := by
 have hb := (Below.refl w.heap.size w).alloc (Nat.le_refl _) (.cells #[.int .i64 C.f0, .int .i64 C.f1, .int .i64 C.f2, .int .i64 C.f3, .string C.f4, .string C.f5, .int .i64 C.f6, .slice A C.f7.length c] 33)
 obtain ⟨mb, h1, h2, h3⟩ := (hg.below hb).facts hl hd
 have HB := am hb
 have hlk := h3 C.f1
 unfold lkv at hlk
 clear hg h1 h3 hb hl hd
 cases hp : place ns C.f1 with
 | none =>
  rw [hp] at hlk
  have hq : ∀ m, (Instr.lookup 100 (.map (some mb)) (.int .i64 C.f1) false).run Tryz.prog ((w.alloc (.cells #[.int .i64 C.f0, .int .i64 C.f1, .int .i64 C.f2, .int .i64 C.f3, .string C.f4, .string C.f5, .int .i64 C.f6, .slice A C.f7.length c] 33)).drewN m) = .ok (.pointer none) _ := fun m => hlk _ rfl
  clear hlk hp
  go_enter Tryz.func163, Tryz.ntmps163
  go_wp2
  go_quiet (fail)
  go_wp2_with (first | (go_at_call 75; refine (deny_calls 2 _).mono ?_; rintro e w' ⟨rfl, rfl⟩))
  go_ret
  refine look_some (r := w.heap.size + 1) 2 ?_ (by simp)
  repeat (first | exact HB.out | apply pw_below_drewN | apply below_drew1)
 | some j =>
  rw [hp] at hlk
  have hq : ∀ m, (Instr.lookup 100 (.map (some mb)) (.int .i64 C.f1) false).run Tryz.prog ((w.alloc (.cells #[.int .i64 C.f0, .int .i64 C.f1, .int .i64 C.f2, .int .i64 C.f3, .string C.f4, .string C.f5, .int .i64 C.f6, .slice A C.f7.length c] 33)).drewN m) = .ok (.pointer (some ⟨bs.getD j 0, 0, none⟩)) _ := fun m => hlk _ rfl
  clear hlk hp
  go_enter Tryz.func163, Tryz.ntmps163
  go_wp2
  go_quiet (fail)
  go_wp2
  go_ret
  exact ⟨by repeat (first | exact HB.out | apply pw_below_drewN | apply below_drew1), rfl⟩
theorem infoTwig : (Tryz.prog.info? 99).map (fun i => i.size) = some 9 := by kernel_rfl
theorem eq_same (a : Nat) (w : World) : (binOp .eql 97 (.pointer (some ⟨a, 0, none⟩)) (.pointer (some ⟨a, 0, none⟩))).run Tryz.prog w = .ok (.bool true) w := by
 obtain ⟨j, hj, _⟩ := Option.map_eq_some_iff.1 infoTwig
 exact run_eql_ptr_same w _ Tryz.underlying97 hj
theorem eq_other {a b : Nat} {w : World} {ca cb : Array Value} {ta tb : TypeId} (hne : a ≠ b) (ha : w.heap[a]? = some (.cells ca ta (0, 0))) (hb : w.heap[b]? = some (.cells cb tb (0, 0))) : (binOp .eql 97 (.pointer (some ⟨a, 0, none⟩)) (.pointer (some ⟨b, 0, none⟩))).run Tryz.prog w = .ok (.bool false) w := by
 obtain ⟨j, hj, hs⟩ := Option.map_eq_some_iff.1 infoTwig
 exact run_eql_ptr_other w Tryz.underlying97 hj (by rw [hs]; decide) (fun e => hne (by injection e)) ha hb
theorem ne_same (a : Nat) (w : World) : (binOp .neq 97 (.pointer (some ⟨a, 0, none⟩)) (.pointer (some ⟨a, 0, none⟩))).run Tryz.prog w = .ok (.bool false) w := by
 obtain ⟨j, hj, _⟩ := Option.map_eq_some_iff.1 infoTwig
 have h : ∀ d : Nat, (Op.equalIn (d + 1) 97 (.pointer (some (⟨a, 0, none⟩ : Addr))) (.pointer (some ⟨a, 0, none⟩))).run Tryz.prog w = .ok true w := fun d => by
  simp [Op.equalIn, run_underlying Tryz.underlying97, sizeOf, typeInfo, hj, run_sameAddr_same]
 simp only [binOp]
 simp [Op.equal, Op.maxDepth, h 9999]
theorem ne_other {a b : Nat} {w : World} {ca cb : Array Value} {ta tb : TypeId} (hne : a ≠ b) (ha : w.heap[a]? = some (.cells ca ta (0, 0))) (hb : w.heap[b]? = some (.cells cb tb (0, 0))) : (binOp .neq 97 (.pointer (some ⟨a, 0, none⟩)) (.pointer (some ⟨b, 0, none⟩))).run Tryz.prog w = .ok (.bool true) w := by
 obtain ⟨j, hj, hs⟩ := Option.map_eq_some_iff.1 infoTwig
 have h : ∀ d : Nat, (Op.equalIn (d + 1) 97 (.pointer (some (⟨a, 0, none⟩ : Addr))) (.pointer (some ⟨b, 0, none⟩))).run Tryz.prog w = .ok false w := fun d => by
  have hne' : (⟨a, 0, none⟩ : Addr) ≠ ⟨b, 0, none⟩ := fun e => hne (by injection e)
  simp [Op.equalIn, run_underlying Tryz.underlying97, sizeOf, typeInfo, hj, hs, run_sameAddr_other w hne' ha hb]
 simp only [binOp]
 simp [Op.equal, Op.maxDepth, h 9999]
end Go.Proofs.YthjgohbkpjhkeaaGreatDoor.Impl
set_option maxHeartbeats 4000000
set_option maxRecDepth 100000
namespace Go.Proofs.YthjgohbkpjhkeaaGreatDoor.Impl
open Go.RowKit Go.Proofs.YthjgohbkpjhkeaaGreatDoorW.PrintWords Go.Proofs.YthjgohbkpjhkeaaGreatDoorW.PrintLast Go.Proofs.YthjgohbkpjhkeaaGreatDoorW.PrintMore Go.Proofs.YthjgohbkpjhkeaaGreatDoor.PFnExactDo Go.Proofs.YthjgohbkpjhkeaaGreatDoor.MapLib Go.Proofs.YthjgohbkpjhkeaaGreatDoor.FireSpec Go.Proofs.YthjgohbkpjhkeaaGreatDoor.Tr Go.Proofs.YthjgohbkpjhkeaaGreatDoor.Fo
theorem ne_nil (a : Nat) (w : World) : (binOp .neq 97 (.pointer none) (.pointer (some ⟨a, 0, none⟩))).run Tryz.prog w = .ok (.bool true) w := by
 have h : ∀ d : Nat, (Op.equalIn (d + 1) 97 (.pointer none) (.pointer (some (⟨a, 0, none⟩ : Addr)))).run Tryz.prog w = .ok false w := fun d => by
  simp [Op.equalIn, run_underlying Tryz.underlying97]
 simp only [binOp]
 simp [Op.equal, Op.maxDepth, h 9999]
abbrev boxC (C : Chg) (A : Option Addr) (c : Nat) : Obj := .cells #[.int .i64 C.f0, .int .i64 C.f1, .int .i64 C.f2, .int .i64 C.f3, .string C.f4, .string C.f5, .int .i64 C.f6, .slice A C.f7.length c] 33
theorem before_calls (w : World) (g : Nat) (ns : List S95) (bs : List Nat) (C : Chg) (A : Option Addr) (c : Nat) (hg : GMap w g ns bs) (hl : bs.length = ns.length) (hd : (ns.map (·.f0)).Nodup) :
  Calls Tryz.prog 150 #[.pointer (some ⟨g, 0, none⟩), chv C A c] w fun e w' => e = .returned (if C.f3 = -1 then .pointer none else lkv ns bs C.f3) ∧ Below w.heap.size w w' := by
 have hb := (Below.refl w.heap.size w).alloc (Nat.le_refl _) (boxC C A c)
 obtain ⟨mb, h1, h2, h3⟩ := (hg.below hb).facts hl hd
 have HB := am hb
 have hq : ∀ m, (Instr.lookup 100 (.map (some mb)) (.int .i64 C.f3) false).run Tryz.prog ((w.alloc (boxC C A c)).drewN m) = .ok (lkv ns bs C.f3) _ := fun m => h3 C.f3 _ rfl
 clear hg h1 h3 hb hl hd
 unfold boxC at *
 by_cases h : C.f3 = -1
 ·rw [if_pos h]
  have hd : ((C.f3 : Int) == -1) = true := by rw [h]; rfl
  clear hq h
  go_enter Tryz.func150, Tryz.ntmps150
  go_wp2
  go_ret
  exact ⟨rfl, HB.out⟩
 ·rw [if_neg h]
  have hd : ((C.f3 : Int) == -1) = false := by simpa using h
  clear h
  go_enter Tryz.func150, Tryz.ntmps150
  go_wp2
  go_quiet (fail)
  go_wp2
  go_ret
  exact ⟨rfl, by repeat (first | exact HB.out | apply pw_below_drewN | apply below_drew1)⟩
def upv (bs : List Nat) : Option Nat → Value
 | none => .pointer none
 | some q => ptr (bs.getD q 0)
def goalCode (ns : List S95) (pr : Nat → Option Nat) (C : Chg) : Option Int :=
 match place ns C.f2 with
 | none => some 2
 | some p => if C.f3 = -1 then none else match place ns C.f3 with
  | none => some 2
  | some b => if pr b = some p then none else some 2
theorem goal_noParent (w : World) (g : Nat) (ns : List S95) (bs : List Nat) (C : Chg) (A : Option Addr) (c : Nat) (hg : GMap w g ns bs) (hl : bs.length = ns.length) (hd : (ns.map (·.f0)).Nodup) (hp : place ns C.f2 = none) :
  Calls Tryz.prog 151 #[.pointer (some ⟨g, 0, none⟩), chv C A c] w (LookEnd w (some 2)) := by
 have hb := (Below.refl w.heap.size w).alloc (Nat.le_refl _) (boxC C A c)
 obtain ⟨mb, h1, h2, h3⟩ := (hg.below hb).facts hl hd
 have HB := am hb
 have hq : ∀ m, (Instr.lookup 100 (.map (some mb)) (.int .i64 C.f2) false).run Tryz.prog ((w.alloc (boxC C A c)).drewN m) = .ok (.pointer none) _ := fun m => by have := h3 C.f2 ((w.alloc (boxC C A c)).drewN m) rfl; unfold lkv at this; rw [hp] at this; exact this
 clear hg h1 h3 hb hl hd hp
 unfold boxC at *
 go_enter Tryz.func151, Tryz.ntmps151
 go_wp2
 go_quiet (fail)
 go_wp2_with (first | (go_at_call 75; refine (deny_calls 2 _).mono ?_; rintro e w' ⟨rfl, rfl⟩))
 go_ret
 refine look_some (r := w.heap.size + 1) 2 ?_ (by simp)
 repeat (first | exact HB.out | apply pw_below_drewN | apply below_drew1)
theorem goal_parent (w : World) (g : Nat) (ns : List S95) (bs : List Nat) (C : Chg) (A : Option Addr) (c : Nat) (hg : GMap w g ns bs) (hl : bs.length = ns.length) (hd : (ns.map (·.f0)).Nodup) (p : Nat) (hp : place ns C.f2 = some p) (pr : Nat → Option Nat) (hup : ∀ j, j < ns.length → (∃ n A c kv pl, TwigB w (bs.getD j 0) n A c kv (upv bs (pr j)) pl) ∧ ∀ q, pr j = some q → q < ns.length) (hnd : bs.Nodup) :
  Calls Tryz.prog 151 #[.pointer (some ⟨g, 0, none⟩), chv C A c] w (LookEnd w (goalCode ns pr C)) := by
 have hb := (Below.refl w.heap.size w).alloc (Nat.le_refl _) (boxC C A c)
 obtain ⟨mb, h1, h2, h3⟩ := (hg.below hb).facts hl hd
 have HB := am hb
 have hq : ∀ m, (Instr.lookup 100 (.map (some mb)) (.int .i64 C.f2) false).run Tryz.prog ((w.alloc (boxC C A c)).drewN m) = .ok (.pointer (some ⟨bs.getD p 0, 0, none⟩)) _ := fun m => by have := h3 C.f2 ((w.alloc (boxC C A c)).drewN m) rfl; unfold lkv at this; rw [hp] at this; exact this
 have hq3 : ∀ m, (Instr.lookup 100 (.map (some mb)) (.int .i64 C.f3) false).run Tryz.prog ((w.alloc (boxC C A c)).drewN m) = .ok (lkv ns bs C.f3) _ := fun m => h3 C.f3 ((w.alloc (boxC C A c)).drewN m) rfl
 have hq4 : ∀ m m2, (Instr.lookup 100 (.map (some mb)) (.int .i64 C.f3) false).run Tryz.prog (((w.alloc (boxC C A c)).drewN m).drewN m2) = .ok (lkv ns bs C.f3) _ := fun m m2 => h3 C.f3 (((w.alloc (boxC C A c)).drewN m).drewN m2) rfl
 unfold goalCode
 rw [hp]
 simp only
 clear hg h1 h3 hd
 by_cases h : C.f3 = -1
 ·rw [if_pos h]
  have hd : ((C.f3 : Int) != -1) = false := by rw [h]; rfl
  clear h hb hp hup
  unfold boxC at *
  go_enter Tryz.func151, Tryz.ntmps151
  go_wp2
  go_quiet (fail)
  go_wp2
  go_quiet (fail)
  go_wp2
  go_ret
  exact ⟨by repeat (first | exact HB.out | apply pw_below_drewN | apply below_drew1), rfl⟩
 ·rw [if_neg h]
  have hd : ((C.f3 : Int) != -1) = true := by simpa using h
  cases hp3 : place ns C.f3 with
  | none =>
   unfold lkv at hq3 hq4
   rw [hp3] at hq3 hq4
   simp only at hq3 hq4 ⊢
   clear h hb hp hup hp3
   unfold boxC at *
   go_enter Tryz.func151, Tryz.ntmps151
   go_wp2
   go_quiet (fail)
   go_wp2
   go_quiet (fail)
   go_wp2_with (first | (go_at_call 75; refine (deny_calls 2 _).mono ?_; rintro e w' ⟨rfl, rfl⟩))
   go_ret
   refine look_some (r := w.heap.size + 1) 2 ?_ (by simp)
   repeat (first | exact HB.out | apply pw_below_drewN | apply below_drew1)
  | some b =>
   unfold lkv at hq3 hq4
   rw [hp3] at hq3 hq4
   simp only at hq3 hq4 ⊢
   obtain ⟨⟨n1, A1, c1, kv1, pl1, ht⟩, hq'⟩ := hup b (place_some hp3).1
   have htX : (w.alloc (boxC C A c)).cell? ⟨bs.getD b 0, 7, none⟩ = some (upv bs (pr b)) := by
    rw [World.cell?_of_block (w := w) (Below.heap_alloc w _ _ (blk_lt ht))]
    exact (twig_cells ht).2.2.1
   have hpl := (place_some hp).1
   clear ht hb hp
   obtain ⟨bb, hbb⟩ : ∃ bb, bb = bs.getD b 0 := ⟨_, rfl⟩
   obtain ⟨bp, hbp⟩ : ∃ bp, bp = bs.getD p 0 := ⟨_, rfl⟩
   unfold ptr at hq3 hq4
   rw [← hbb] at hq3 hq4 htX
   rw [← hbp] at hq
   have HBP := am hbp
   clear hbb hbp
   cases hpr : pr b with
   | none =>
    rw [hpr] at htX
    simp only [upv] at htX
    rw [if_neg (by simp)]
    have hE := fun m => ne_nil bp ((w.alloc (boxC C A c)).drewN m)
    clear hup hp3 hq' hpr h
    unfold boxC at *
    go_enter Tryz.func151, Tryz.ntmps151
    go_wp2
    go_quiet (fail)
    go_wp2
    go_quiet (fail)
    go_wp2_with (first | (go_at_call 75; refine (deny_calls 2 _).mono ?_; rintro e w' ⟨rfl, rfl⟩))
    go_ret
    refine look_some (r := w.heap.size + 1) 2 ?_ (by simp)
    repeat (first | exact HB.out | apply pw_below_drewN | apply below_drew1)
   | some q =>
    have hql := hq' q hpr
    rw [hpr] at htX
    simp only [upv, ptr] at htX
    by_cases hqp : q = p
    ·subst hqp
     rw [← HBP.out] at htX
     rw [if_pos rfl]
     have hE := fun m => ne_same bp ((w.alloc (boxC C A c)).drewN m)
     clear hup hp3 hq' hpr h
     unfold boxC at *
     go_enter Tryz.func151, Tryz.ntmps151
     go_wp2
     go_quiet (fail)
     go_wp2
     go_quiet (fail)
     go_wp2
     go_ret
     exact ⟨by repeat (first | exact HB.out | apply pw_below_drewN | apply below_drew1), rfl⟩
    ·obtain ⟨bq, hbq⟩ : ∃ bq, bq = bs.getD q 0 := ⟨_, rfl⟩
     have hne : bq ≠ bp := fun e => by
      rw [hbq, HBP.out, List.getD_eq_getElem?_getD, List.getD_eq_getElem?_getD, List.getElem?_eq_getElem (by omega), List.getElem?_eq_getElem (by omega)] at e
      exact hqp ((List.getElem_inj hnd).1 (by simpa using e))
     rw [← hbq] at htX
     rw [if_neg (by simpa using hqp)]
     obtain ⟨⟨n5, A5, c5, kv5, pl5, ht5⟩, _⟩ := hup q hql
     obtain ⟨⟨n6, A6, c6, kv6, pl6, ht6⟩, _⟩ := hup p hpl
     rw [← hbq] at ht5
     rw [← HBP.out] at ht6
     have hba : Below w.heap.size w (w.alloc (boxC C A c)) := (Below.refl _ w).alloc (Nat.le_refl _) _
     have hE : ∀ m, _ := fun m => ne_other (w := (w.alloc (boxC C A c)).drewN m) hne (show ((w.alloc (boxC C A c)).drewN m).heap[bq]? = _ from (blk_below ht5 hba : (w.alloc (boxC C A c)).heap[bq]? = _)) (show ((w.alloc (boxC C A c)).drewN m).heap[bp]? = _ from (blk_below ht6 hba : (w.alloc (boxC C A c)).heap[bp]? = _))
     clear ht5 ht6 hba
     clear hup hp3 hq' hpr h hbq hqp
     unfold boxC at *
     go_enter Tryz.func151, Tryz.ntmps151
     go_wp2
     go_quiet (fail)
     go_wp2
     go_quiet (fail)
     go_wp2_with (first | (go_at_call 75; refine (deny_calls 2 _).mono ?_; rintro e w' ⟨rfl, rfl⟩))
     go_ret
     refine look_some (r := w.heap.size + 1) 2 ?_ (by simp)
     repeat (first | exact HB.out | apply pw_below_drewN | apply below_drew1)
end Go.Proofs.YthjgohbkpjhkeaaGreatDoor.Impl
set_option maxHeartbeats 4000000
set_option maxRecDepth 100000
namespace Go.Proofs.YthjgohbkpjhkeaaGreatDoor.Impl
open Go.RowKit Go.Proofs.YthjgohbkpjhkeaaGreatDoorW.PrintWords Go.Proofs.YthjgohbkpjhkeaaGreatDoorW.PrintLast Go.Proofs.YthjgohbkpjhkeaaGreatDoorW.PrintMore Go.Proofs.YthjgohbkpjhkeaaGreatDoor.PFnExactDo Go.Proofs.YthjgohbkpjhkeaaGreatDoor.MapLib Go.Proofs.YthjgohbkpjhkeaaGreatDoor.FireSpec Go.Proofs.YthjgohbkpjhkeaaGreatDoor.Tr Go.Proofs.YthjgohbkpjhkeaaGreatDoor.Fo
theorem AttrsAt.below {w w1 : World} {A : Option Addr} {c : Nat} {xs : List S149} (h : AttrsAt w A c xs) (hb : Below w.heap.size w w1) : AttrsAt w1 A c xs := ⟨h.1, h.2.1, Kd.C_below h.2.2 hb⟩
def Twigs (w : World) (ns : List S95) (bs : List Nat) (pr : Nat → Option Nat) : Prop :=
 ∀ j (h : j < ns.length), (∃ A c kv pl, AttrsAt w A c ns[j].f3 ∧ TwigB w (bs.getD j 0) ns[j] A c kv (upv bs (pr j)) pl) ∧ ∀ q, pr j = some q → q < ns.length
theorem Twigs.below {w w1 : World} {ns : List S95} {bs : List Nat} {pr : Nat → Option Nat} (h : Twigs w ns bs pr) (hb : Below w.heap.size w w1) : Twigs w1 ns bs pr := fun j hj => by
 obtain ⟨⟨A, c, kv, pl, h0, h1⟩, h2⟩ := h j hj
 exact ⟨⟨A, c, kv, pl, h0.below hb, blk_below h1 hb⟩, h2⟩
def holdsF (n : S95) : Bool := n.f1 == 2 || n.f1 == 1
theorem holds_calls (w : World) (b : Nat) (n : S95) (A : Option Addr) (c : Nat) (kv up : Value) (pl : Int) (hx : TwigB w b n A c kv up pl) :
  Calls Tryz.prog 152 #[ptr b] w fun e w' => e = .returned (.bool (holdsF n)) ∧ w' = w := by
 obtain ⟨⟨hx0, hx1, hx2, hx3, hx4, hx5⟩, hx6, hx7, hx8, hxf⟩ := twig_cells hx
 clear hx hx0 hx2 hx3 hx4 hx5 hx6 hx7 hx8 hxf
 unfold ptr holdsF
 cases h2 : (n.f1 == 2) with
 | true =>
  go_enter Tryz.func152, Tryz.ntmps152
  go_wp2
  go_ret
  exact ⟨rfl, rfl⟩
 | false =>
  cases h1 : (n.f1 == 1) with
  | true =>
   go_enter Tryz.func152, Tryz.ntmps152
   go_wp2
   go_ret
   exact ⟨rfl, rfl⟩
  | false =>
   go_enter Tryz.func152, Tryz.ntmps152
   go_wp2
   go_ret
   exact ⟨rfl, rfl⟩
def kindAt (ns : List S95) (j : Nat) : Int := ((ns[j]?).map (·.f1)).getD 0
theorem kindAt_of {ns : List S95} {j : Nat} (h : j < ns.length) : kindAt ns j = ns[j].f1 := by simp [kindAt, h]
def elementCode (ns : List S95) (C : Chg) : Option Int :=
 match place ns C.f1 with
 | none => some 2
 | some j => if kindAt ns j = 2 then none else some 3
theorem LookEnd.next {w w2 w1 : World} {code : Option Int} {e : Ending} (hb : Below w.heap.size w w2) (h : LookEnd w2 code e w1) : LookEnd w code e w1 := by
 refine ⟨below_step hb h.1, ?_⟩
 have h2 := h.2
 cases code with
 | none => exact h2
 | some k =>
  obtain ⟨r, h3, h4, h5⟩ := h2
  exact ⟨r, h3, Nat.le_trans hb.size h4, h5⟩
theorem box_at (w : World) (C : Chg) (A : Option Addr) (c : Nat) {w1 : World} (hb : Below (w.alloc (boxC C A c)).heap.size (w.alloc (boxC C A c)) w1) : w1.heap[w.heap.size]? = some (boxC C A c) :=
 blk_below (w := w.alloc (boxC C A c)) (blk_newest w (boxC C A c)) hb
theorem GMap.look {w : World} {g : Nat} {ns : List S95} {bs : List Nat} (h : GMap w g ns bs) (hl : bs.length = ns.length ∧ (ns.map (·.f0)).Nodup) {id : Int} {v : Value} (hv : lkv ns bs id = v) : ∃ mb, w.cell? ⟨g, 0, none⟩ = some (ptr (bs.getD 0 0)) ∧ w.cell? ⟨g, 1, none⟩ = some (.map (some mb)) ∧ ∀ m, (Instr.lookup 100 (.map (some mb)) (.int .i64 id) false).run Tryz.prog (w.drewN m) = .ok v (w.drewN m) := by
 obtain ⟨mb, h1, h2, h3⟩ := h.facts hl.1 hl.2
 exact ⟨mb, h1, h2, fun m => hv ▸ h3 id (w.drewN m) rfl⟩
theorem GMap.lookD {w : World} {g : Nat} {ns : List S95} {bs : List Nat} (h : GMap w g ns bs) (hl : bs.length = ns.length ∧ (ns.map (·.f0)).Nodup) {id : Int} {v : Value} (hv : lkv ns bs id = v) : ∃ mb, w.cell? ⟨g, 0, none⟩ = some (ptr (bs.getD 0 0)) ∧ w.cell? ⟨g, 1, none⟩ = some (.map (some mb)) ∧ (Instr.lookup 100 (.map (some mb)) (.int .i64 id) false).run Tryz.prog w.drew = .ok v w.drew := by
 obtain ⟨mb, h1, h2, h3⟩ := h.facts hl.1 hl.2
 exact ⟨mb, h1, h2, hv ▸ h3 id _ rfl⟩
theorem element_calls (w : World) (g : Nat) (ns : List S95) (bs : List Nat) (C : Chg) (A : Option Addr) (c : Nat) (hg : GMap w g ns bs) (hl : bs.length = ns.length) (hd : (ns.map (·.f0)).Nodup) (pr : Nat → Option Nat) (ht : Twigs w ns bs pr) :
  Calls Tryz.prog 171 #[.pointer (some ⟨g, 0, none⟩), chv C A c] w (LookEnd w (elementCode ns C)) := by
 have hb := (Below.refl w.heap.size w).alloc (Nat.le_refl _) (boxC C A c)
 have HT := am (target_calls _ g ns bs C A c (hg.below hb) hl hd)
 have HB := am hb
 cases hp : place ns C.f1 with
 | none =>
  have HE := am (show elementCode ns C = some 2 by unfold elementCode; rw [hp])
  have HT2 : Aside0 (Calls Tryz.prog 163 #[.pointer (some ⟨g, 0, none⟩), chv C A c] (w.alloc (boxC C A c)) (LookEnd (w.alloc (boxC C A c)) (some 2))) := ⟨by have := HT.out; rw [hp] at this; exact this⟩
  clear HT hg ht hp hl hd hb
  unfold boxC at *
  go_enter Tryz.func171, Tryz.ntmps171
  go_wp2_with (first | (go_at_call 163; refine HT2.out.mono ?_; rintro e w1 ⟨hb1, r, rfl, hr, hc1⟩; have HB1 := am (And.intro hb1 hr); clear hb1 hr))
  go_ret
  rw [HE.out]
  exact LookEnd.next HB.out ⟨HB1.out.1, r, rfl, HB1.out.2, hc1⟩
 | some j =>
  have HT2 : Aside0 (Calls Tryz.prog 163 #[.pointer (some ⟨g, 0, none⟩), chv C A c] (w.alloc (boxC C A c)) (LookEnd (w.alloc (boxC C A c)) none)) := ⟨by have := HT.out; rw [hp] at this; exact this⟩
  obtain ⟨hj, _⟩ := place_some hp
  have HG := am hg
  have HL := am (And.intro hl hd)
  obtain ⟨⟨A1, c1, kv1, pl1, ha1, h1⟩, _⟩ := ht j hj
  have HTW := am h1
  have HLK := am (show lkv ns bs C.f1 = .pointer (some ⟨bs.getD j 0, 0, none⟩) by unfold lkv; rw [hp]; rfl)
  have HK := am (show elementCode ns C = if ns[j].f1 = 2 then none else some 3 by unfold elementCode; rw [hp]; simp only; rw [kindAt_of hj])
  obtain ⟨n, hn⟩ : ∃ n, n = ns[j] := ⟨_, rfl⟩
  rw [← hn] at HTW HK
  obtain ⟨bj, hbj⟩ : ∃ bj, bj = bs.getD j 0 := ⟨_, rfl⟩
  rw [← hbj] at HTW HLK
  clear HT ht hp h1 ha1 hn hbj hj hg hl hd hb
  by_cases hk : n.f1 = 2
  ·rw [if_pos hk] at HK
   have hk2 : (n.f1 != 2) = false := by rw [hk]; rfl
   clear hk
   go_enter Tryz.func171, Tryz.ntmps171
   go_wp2_with (first | (go_at_call 163; refine HT2.out.mono ?_; rintro e w1 ⟨hb1, rfl⟩; have HB1 := am (below_step HB.out hb1); have hx1 : w1.cell? ⟨w.heap.size, 1, none⟩ = some (.int .i64 C.f1) := blk_cell (box_at w C A c hb1) 1; obtain ⟨mb, _, hm, hq⟩ := (HG.out.below HB1.out).look HL.out HLK.out; have ht1 : w1.cell? ⟨bj, 1, none⟩ = some (.int .i64 n.f1) := blk_cell (blk_below HTW.out HB1.out) 1; clear hb1))
   go_quiet (fail)
   go_wp2
   go_ret
   rw [HK.out]
   exact ⟨by repeat (first | exact HB1.out | apply pw_below_drewN | apply below_drew1), rfl⟩
  ·rw [if_neg hk] at HK
   have hk2 : (n.f1 != 2) = true := by simpa using hk
   clear hk
   go_enter Tryz.func171, Tryz.ntmps171
   go_wp2_with (first | (go_at_call 163; refine HT2.out.mono ?_; rintro e w1 ⟨hb1, rfl⟩; have HB1 := am (below_step HB.out hb1); have hx1 : w1.cell? ⟨w.heap.size, 1, none⟩ = some (.int .i64 C.f1) := blk_cell (box_at w C A c hb1) 1; obtain ⟨mb, _, hm, hq⟩ := (HG.out.below HB1.out).look HL.out HLK.out; have ht1 : w1.cell? ⟨bj, 1, none⟩ = some (.int .i64 n.f1) := blk_cell (blk_below HTW.out HB1.out) 1; clear hb1))
   go_quiet (fail)
   go_wp2_with (first | (go_at_call 75; refine (deny_calls 3 _).mono ?_; rintro e w' ⟨rfl, rfl⟩))
   go_ret
   rw [HK.out]
   refine look_some 3 ?_ rfl
   repeat (first | exact HB1.out | apply pw_below_drewN | apply below_drew1)
end Go.Proofs.YthjgohbkpjhkeaaGreatDoor.Impl
set_option maxHeartbeats 8000000
set_option maxRecDepth 100000
namespace Go.Proofs.YthjgohbkpjhkeaaGreatDoor.Impl
open Go.RowKit Go.Proofs.YthjgohbkpjhkeaaGreatDoorW.PrintWords Go.Proofs.YthjgohbkpjhkeaaGreatDoorW.PrintLast Go.Proofs.YthjgohbkpjhkeaaGreatDoorW.PrintMore Go.Proofs.YthjgohbkpjhkeaaGreatDoor.PFnExactDo Go.Proofs.YthjgohbkpjhkeaaGreatDoor.MapLib Go.Proofs.YthjgohbkpjhkeaaGreatDoor.FireSpec Go.Proofs.YthjgohbkpjhkeaaGreatDoor.Tr Go.Proofs.YthjgohbkpjhkeaaGreatDoor.Fo
def wholeL (m : Int) : Int → List S95 → Bool
 | o, [] => o == 0
 | o, n :: r => if o == 0 || decide (n.f5 < 0) then false else wholeL m (o + (min n.f5 (m + 1) - 1)) r
def wholeF (ns : List S95) : Bool := wholeL ns.length 1 ns
theorem whole_calls (w : World) (ns : List S95) (A : Option Addr) (c : Nat) (hC : Kd.C k95 w A ns.length ns) (hn : ns.length ≤ 1000000000) (hwf : ∀ n ∈ ns, n.f5 ≤ 9223372036854775807 ∧ -9223372036854775808 ≤ n.f5) :
  Calls Tryz.prog 153 #[.slice A ns.length c] w fun e w' => e = .returned (.bool (wholeF ns)) ∧ Below w.heap.size w w' := by
 have hun := Tryz.underlying95
 have HC := am hC
 have HN := am (And.intro hn hwf)
 clear hC hn hwf
 go_enter Tryz.func153, Tryz.ntmps153
 go_wp2
 go_loopg [3, 8] (ns.length + 1) (fun kq v3 v8 wr => ∃ (j : Nat) (o : Int), v8 = .int .i64 j ∧ v3 = .int .i64 o ∧ Aside0 (j ≤ ns.length ∧ j + kq = ns.length + 1 ∧ wholeF ns = wholeL ns.length o (ns.drop j) ∧ 0 ≤ o ∧ o ≤ 1 + (j : Int) * 1000000000) ∧ Aside0 (Below w.heap.size w wr))
 case atStart => exact ⟨0, 1, rfl, rfl, ⟨Nat.zero_le _, by omega, rfl, by omega, by omega⟩, ⟨Below.refl _ _⟩⟩
 case round =>
  obtain ⟨j, o, rfl, rfl, HJ, HB⟩ := hrel
  by_cases hj : j < ns.length
  ·obtain ⟨ad, A3, c3, e, hx0, hx1, hx2, hx3, hx4, hx5, hl3, hi3⟩ := at_T95 HC.out (j : Int) (by omega) (by omega)
   cases e
   replace hx0 := (HB.out.cell (World.block_lt_of_cell? w _ hx0)).trans hx0
   replace hx1 := (HB.out.cell (World.block_lt_of_cell? w _ hx1)).trans hx1
   replace hx2 := (HB.out.cell (World.block_lt_of_cell? w _ hx2)).trans hx2
   replace hx3 := (HB.out.cell (World.block_lt_of_cell? w _ hx3)).trans hx3
   replace hx4 := (HB.out.cell (World.block_lt_of_cell? w _ hx4)).trans hx4
   replace hx5 := (HB.out.cell (World.block_lt_of_cell? w _ hx5)).trans hx5
   have hrd : rd_T95 ns (j : Int) = ns[j] := by simp [rd_T95, hj]
   rw [hrd] at hx0 hx1 hx2 hx3 hx4 hx5 hl3 hi3
   simp only [Int.toNat_natCast] at hx0 hx1 hx2 hx3 hx4 hx5
   have hst : wholeF ns = (if o == 0 || decide (ns[j].f5 < 0) then false else wholeL ns.length (o + (min ns[j].f5 ((ns.length : Int) + 1) - 1)) (ns.drop (j + 1))) := by
    rw [HJ.out.2.2.1, List.drop_eq_getElem_cons hj]
    rfl
   have hwf := HN.out.2 _ (List.getElem_mem hj)
   obtain ⟨x, hx⟩ : ∃ x, x = ns[j] := ⟨_, rfl⟩
   rw [← hx] at hx0 hx1 hx2 hx3 hx4 hx5 hst hwf
   have hd : decide (j < ns.length) = true := decide_eq_true hj
   have hd2 : decide ((j : Int) < (ns.length : Int)) = true := decide_eq_true (by omega)
   have HST := am hst
   have HJL := am hj
   have HWF := am hwf
   have hij : (j : Int) < (ns.length : Int) := by omega
   have hlen := HN.out.1
   have hlen' : (ns.length : Int) ≤ 1000000000 := by omega
   have hj0 : (0 : Int) ≤ (j : Int) := by omega
   clear hx hrd hj hl3 hi3 hst hwf
   cases h0 : (o == 0) with
   | true =>
    have HR := am (show wholeF ns = false by rw [HST.out, h0]; rfl)
    go_wp2
    go_ret
    rw [HR.out]
    exact ⟨rfl, HB.out.alloc HB.out.size _⟩
   | false =>
    cases h5 : decide (x.f5 < 0) with
    | true =>
     have HR := am (show wholeF ns = false by rw [HST.out, h0, h5]; rfl)
     go_wp2
     go_ret
     rw [HR.out]
     exact ⟨rfl, HB.out.alloc HB.out.size _⟩
    | false =>
     have HR := am (show wholeF ns = wholeL ns.length (o + (min x.f5 ((ns.length : Int) + 1) - 1)) (ns.drop (j + 1)) by rw [HST.out, h0, h5]; rfl)
     have hge : 0 ≤ x.f5 := by simpa using h5
     have ho : 1 ≤ o := by have := HJ.out.2.2.2.1; have : o ≠ 0 := (by simpa using h0); omega
     have ho2 : o ≤ 1 + (j : Int) * 1000000000 := HJ.out.2.2.2.2
     clear HST
     go_wp2
     go_roundg (gk - 1)
     case measure => have := HJ.out.2.1; have := HJL.out; omega
     case rel =>
      refine ⟨j + 1, o + (min x.f5 ((ns.length : Int) + 1) - 1), by first | rfl | go_num, rfl, ⟨HJL.out, ?_, HR.out, ?_, ?_⟩, ⟨HB.out.alloc HB.out.size _⟩⟩
      ·have := HJ.out.2.1; have := HJL.out; omega
      ·have h1 : 0 ≤ min x.f5 ((ns.length : Int) + 1) := by omega
       omega
      ·have h1 : min x.f5 ((ns.length : Int) + 1) ≤ (ns.length : Int) + 1 := by omega
       have e : ((j + 1 : Nat) : Int) = (j : Int) + 1 := by omega
       rw [e]
       omega
  ·have hd : decide (j < ns.length) = false := decide_eq_false hj
   have hd2 : decide ((j : Int) < (ns.length : Int)) = false := decide_eq_false (by omega)
   have HR := am (show wholeF ns = (o == 0) by rw [HJ.out.2.2.1, List.drop_eq_nil_of_le (by omega)]; rfl)
   clear hj
   cases h0 : (o == 0) with
   | true =>
    go_wp2
    go_ret
    rw [HR.out, h0]
    exact ⟨rfl, HB.out⟩
   | false =>
    go_wp2
    go_ret
    rw [HR.out, h0]
    exact ⟨rfl, HB.out⟩
end Go.Proofs.YthjgohbkpjhkeaaGreatDoor.Impl
