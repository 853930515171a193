/- Part 3 of the proof: ImplTree, Twig. -/
import Derived.Test.YthjgohbkpjhkeaaGreatDoorA1
import Derived.Test.YthjgohbkpjhkeaaGreatDoorA2
set_option linter.unusedVariables false
set_option linter.unusedSimpArgs false
set_option maxHeartbeats 4000000
set_option maxRecDepth 100000
namespace Go.Proofs.YthjgohbkpjhkeaaGreatDoor.Impl
open Go.RowKit Go.Proofs.YthjgohbkpjhkeaaGreatDoorW.PrintWords Go.Proofs.YthjgohbkpjhkeaaGreatDoorW.PrintLast Go.Proofs.YthjgohbkpjhkeaaGreatDoorW.PrintMore Go.Proofs.YthjgohbkpjhkeaaGreatDoor.PFnExactDo Go.Proofs.YthjgohbkpjhkeaaGreatDoor.MapLib Go.Proofs.YthjgohbkpjhkeaaGreatDoor.FireSpec Go.Proofs.YthjgohbkpjhkeaaGreatDoor.Tr
theorem keyI : KeyEnc Tryz.prog 3 (fun n : Int => Value.int .i64 n) := key_int Tryz.underlying3
def ndsI (ns : List S95) : List Nd := ns.map (fun n => ⟨n.f0, kid n, nodeRightB n⟩)
def treeOkI (ns : List S95) : Bool := decide (1 ≤ ns.length ∧ ns.length ≤ 4000) && iloop true [] [] (ndsI ns)
theorem sloop_I : ∀ (ns : List S95) (fst : Bool) (seen : List Int) (left : List Nat), sloop fst seen left (ndsI ns) = (sloop fst seen left (nds ns) && decide (∀ n ∈ ns, 0 ≤ n.f5))
 | [], _, _, _ => by simp [sloop, ndsI, nds]
 | n :: ns, fst, seen, left => by
  have ih := sloop_I ns false (seen ++ [n.f0]) (dropz (kid n :: dec left))
  simp only [ndsI, nds, List.map_cons, sloop, nodeRightB] at ih ⊢
  by_cases h : 0 ≤ n.f5
  ·have e : decide (∀ x ∈ n :: ns, 0 ≤ x.f5) = decide (∀ x ∈ ns, 0 ≤ x.f5) := by
    rw [decide_eq_decide]; simp [h]
   rw [e]
   simp only [h, decide_true, Bool.and_true]
   split
   ·simp
   ·exact ih
  ·simp [h]
theorem treeOkI_eq (ns : List S95) : treeOkI ns = treeOk ns := by
 unfold treeOkI treeOk
 by_cases h1 : 1 ≤ ns.length ∧ ns.length ≤ 4000
 ·rw [decide_eq_true h1, Bool.true_and]
  cases ns with
  | nil => simp at h1
  | cons n ns =>
   have h2 := sloop_I (n :: ns) true [] []
   have h3 : iloop true [] [] (ndsI (n :: ns)) = (sloop true [] [] (ndsI (n :: ns)) && decide (fin (kids (n :: ns)) 1 0 = some (n :: ns).length)) := by
    simp only [ndsI, List.map_cons, iloop, sloop]
    have h4 := iloop_sloop (ns.map fun n => (⟨n.f0, kid n, nodeRightB n⟩ : Nd)) ([] ++ [n.f0]) (kid n :: dec (dropz []))
    by_cases h5 : nodeRightB n true = true
    ·simp only [h5, dropz, List.length_nil, List.contains_nil, Bool.not_true, Bool.or_self, Bool.false_eq_true, if_false, List.isEmpty_nil, Bool.false_and, Bool.false_or, dec]
     simp only [show decide (400 < 0) = false from rfl, Bool.or_self, Bool.false_eq_true, if_false]
     rw [show dec (dropz ([] : List Nat)) = [] from rfl] at h4
     rw [h4]
     congr 1
     simp only [sum, List.foldr_cons, List.foldr_nil, kids, List.map_cons, fin, List.map_map, Nat.add_zero, fin_shift, List.length_cons, List.length_map]
     have e : (Nd.kids ∘ fun n => (⟨n.f0, kid n, nodeRightB n⟩ : Nd)) = kid := rfl
     rw [e]
     cases fin (ns.map kid) (kid n) 0 <;> simp [dropz]
    ·simp [h5]
   rw [h3, h2]
   rw [Bool.eq_iff_iff]
   simp only [Bool.and_eq_true, decide_eq_true_eq]
   constructor
   ·rintro ⟨⟨a, b⟩, c⟩
    exact ⟨⟨h1.1, h1.2, b, c⟩, a⟩
   ·rintro ⟨⟨_, _, b, c⟩, a⟩
    exact ⟨⟨a, b⟩, c⟩
 ·rw [decide_eq_false h1, Bool.false_and]
  rw [decide_eq_false (fun h => h1 ⟨h.1, h.2.1⟩), Bool.false_and]
theorem nodeRight_is (n : S95) (A : Option Addr) (c : Nat) (isFirst b : Bool) (w : World) (hr : Kd.C k149 w A n.f3.length n.f3) (hc : n.f3.length ≤ c) (hb : nodeRightB n isFirst = b) :
  Calls Tryz.prog 83 #[.agg #[.int .i64 n.f0, .int .i64 n.f1, .string n.f2, .slice A n.f3.length c, .string n.f4, .int .i64 n.f5], .bool isFirst] w fun e w' => e = .returned (.bool b) ∧ Below w.heap.size w w' := by
 subst hb
 exact nodeRight_calls n A c isFirst w hr hc
theorem R_map {α : Type} {d : Kd α} {e : Nat} {w w1 : World} {base : Nat} {ok : Nat → Prop} {v : Value} {xs : List α} (h : d.R e w base ok v xs) {M c : Nat} {es : Array MapEntry} (hm : w.heap[M]? = some (.map es c)) (hg : w.grownBy w1 (some M)) : d.R e w1 base ok v xs := by
 refine Kd.R_mono (Kd.R_step (Kd.R_bound h) (fun k hk hlt => hg.block k hlt (fun e => ?_))) (fun k hk => hk.1)
 injection e with e
 subst e
 obtain ⟨_, _, _, q, _, cells, hc⟩ := hk
 rw [hm] at hc
 cases hc
theorem MapIs.is {α : Type} {enc : α → Value} {w : World} {b : Nat} {m : List (α × Value)} (h : MapIs enc w b m) : ∃ es c, w.heap[b]? = some (.map es c) := by
 obtain ⟨bs, c, _, hb⟩ := h
 exact ⟨_, _, hb⟩
theorem MapIs.beside {α β : Type} {enc : α → Value} {w w1 : World} {b : Nat} {m : List (α × Value)} (h : MapIs enc w b m) {d : Kd β} {e base : Nat} {ok : Nat → Prop} {v : Value} {xs : List β} (hr : d.R e w base ok v xs) (hg : w.grownBy w1 v.ownBlock) : MapIs enc w1 b m := by
 refine h.kept (hg.block b h.lt (fun e => ?_))
 obtain ⟨inner, ho⟩ := Kd.R_own hr
 obtain ⟨cells, hc⟩ := own_typed ho b e.symm
 obtain ⟨es, c, hm⟩ := MapIs.is h
 rw [hm] at hc
 cases hc
def idsSeen (ns : List S95) : List (Int × Value) := ns.map (fun n => (n.f0, .bool true))
theorem look_ids (l : List S95) (k : Int) : mlook (idsSeen l) k = if (l.map (·.f0)).contains k = true then some (.bool true) else none := by
 induction l with
 | nil => simp [idsSeen, mlook]
 | cons a l ih =>
  unfold mlook idsSeen at ih ⊢
  by_cases e : k = a.f0
  ·simp [e]
  ·simp only [List.map_cons, List.find?_cons, e, decide_false, List.contains_cons, beq_iff_eq, Bool.or_eq_true]
   rw [ih]
   simp [e]
def nodeCells (n : S95) (A : Option Addr) (c : Nat) : List Value := [.int .i64 n.f0, .int .i64 n.f1, .string n.f2, .slice A n.f3.length c, .string n.f4, .int .i64 n.f5]
theorem iloop_rd (ns : List S95) (x : Int) (h0 : 0 ≤ x) (hx : x < ns.length) (fst : Bool) (seen : List Int) (left : List Nat) : iloop fst seen left (ndsI (ns.drop x.toNat)) =
  if !nodeRightB (rd_T95 ns x) fst || seen.contains (rd_T95 ns x).f0 then false
  else if (!fst && (dropz left).isEmpty) || decide (400 < (dropz left).length) then false
  else iloop false (seen ++ [(rd_T95 ns x).f0]) (kid (rd_T95 ns x) :: dec (dropz left)) (ndsI (ns.drop (x.toNat + 1))) := by
 have hi : x.toNat < ns.length := by omega
 have hr : rd_T95 ns x = ns[x.toNat] := by simp [rd_T95, hi]
 rw [hr, List.drop_eq_getElem_cons hi]
 rfl
theorem ints_all (left : List Nat) : left.all (fun k => k == 0) = true ↔ ∀ j : Nat, j < (ints left).length → (ints left).getD j 0 = 0 := by
 rw [List.all_eq_true]
 constructor
 ·intro h j hj
  have hm : (ints left)[j] ∈ ints left := List.getElem_mem hj
  rw [List.getD_eq_getElem?_getD, List.getElem?_eq_getElem hj, Option.getD_some]
  unfold ints at hm
  rw [List.mem_reverse, List.mem_map] at hm
  obtain ⟨k, hk, he⟩ := hm
  have := h k hk
  rw [beq_iff_eq] at this
  rw [show (ints left)[j] = (k : Int) from he.symm]
  omega
 ·intro h k hk
  have hm : (k : Int) ∈ ints left := by unfold ints; rw [List.mem_reverse, List.mem_map]; exact ⟨k, hk, rfl⟩
  obtain ⟨j, hj⟩ := List.mem_iff_getElem?.1 hm
  have hl : j < (ints left).length := by
   rcases Nat.lt_or_ge j (ints left).length with h | h
   ·exact h
   ·rw [List.getElem?_eq_none h] at hj; cases hj
  have := h j hl
  rw [List.getD_eq_getElem?_getD, hj, Option.getD_some] at this
  rw [beq_iff_eq]
  omega
def LoopAt (ns : List S95) (kq : Nat) (x : Int) (left : List Nat) : Prop :=
 0 ≤ x ∧ x.toNat + kq = ns.length + 1 ∧ x ≤ ns.length ∧ left.length ≤ x.toNat ∧ treeOkI ns = iloop (x == 0) ((ns.take x.toNat).map (·.f0)) left (ndsI (ns.drop x.toNat)) ∧ ∀ a ∈ left, (a : Int) ≤ 9223372036854775807
theorem LoopAt.next {ns : List S95} {kq : Nat} {x : Int} {left L : List Nat} (h : LoopAt ns kq x left) (hlt : x < ns.length) (hb : L.length ≤ x.toNat ∧ (∀ a ∈ L, (a : Int) ≤ 9223372036854775807) ∧ (∀ a r, L = a :: r → 0 < a))
  (hT : treeOkI ns = (if (!(x == 0) && L.isEmpty) || decide (400 < L.length) then false else iloop false ((ns.take x.toNat).map (·.f0) ++ [(rd_T95 ns x).f0]) (kid (rd_T95 ns x) :: dec L) (ndsI (ns.drop (x.toNat + 1)))))
  (h1 : ((!(x == 0) && L.isEmpty) || decide (400 < L.length)) = false) (hwf : ∀ n ∈ ns, n.f5 ≤ 9223372036854775807) : LoopAt ns (kq - 1) (x + 1) (kid (rd_T95 ns x) :: dec L) := by
 obtain ⟨a1, a2, a3, a4, a5, a6⟩ := h
 have hi : x.toNat < ns.length := by omega
 have hr : rd_T95 ns x = ns[x.toNat] := by simp [rd_T95, hi]
 have hx1 : (x + 1).toNat = x.toNat + 1 := by omega
 have hdl : (dec L).length = L.length := by cases L <;> simp [dec]
 refine ⟨by omega, by omega, by omega, ?_, ?_, ?_⟩
 ·simp only [List.length_cons, hdl]; omega
 ·rw [hT, h1, hx1, List.take_succ_eq_append_getElem hi, List.map_append, hr]
  have : ((x + 1) == 0) = false := by rw [beq_eq_false_iff_ne]; omega
  rw [this]
  rfl
 ·intro a ha
  rcases List.mem_cons.1 ha with e | ha
  ·have := hwf _ (List.getElem_mem hi)
   rw [e, hr]
   unfold kid
   omega
  ·cases L with
   | nil => simp [dec] at ha
   | cons b r =>
    simp only [dec, List.mem_cons] at ha
    rcases ha with e | ha
    ·have := hb.2.1 b List.mem_cons_self; omega
    ·exact hb.2.1 a (List.mem_cons_of_mem _ ha)
theorem ids_next {ns : List S95} {x : Int} (h0 : 0 ≤ x) (hlt : x < ns.length) : idsSeen (ns.take (x + 1).toNat) = idsSeen (ns.take x.toNat) ++ [((rd_T95 ns x).f0, .bool true)] := by
 have hi : x.toNat < ns.length := by omega
 have hr : rd_T95 ns x = ns[x.toNat] := by simp [rd_T95, hi]
 rw [show (x + 1).toNat = x.toNat + 1 from by omega, List.take_succ_eq_append_getElem hi, hr]
 unfold idsSeen
 rw [List.map_append]
 rfl
theorem kid_of_right {n : S95} {b : Bool} (h : nodeRightB n b = true) : ((kid n : Nat) : Int) = n.f5 := by
 unfold nodeRightB at h
 rw [Bool.and_eq_true, decide_eq_true_eq] at h
 have := h.2
 unfold kid
 omega
theorem treeOk_calls (A : Option Addr) (c : Nat) (ns : List S95) (w : World) (hr : Kd.C k95 w A ns.length ns) (hc : ns.length ≤ c) (hwf : ∀ n ∈ ns, n.f5 ≤ 9223372036854775807) :
  Calls Tryz.prog 52 #[.agg #[.slice A ns.length c]] w fun e w' => e = .returned (.bool (treeOkI ns)) ∧ Below w.heap.size w w' := by
 have hln : ns.length ≤ 9223372036854775807 := hr.2.1
 have HR := am hr
 have HC := am hc
 have HWF := am hwf
 clear hr hc hwf
 have hu := Tryz.underlying95
 have hut := Tryz.underlying31
 rcases Bool.eq_false_or_eq_true ((ns.length : Int) == 0) with h0 | h0
 ·have hres := am (show treeOkI ns = false by simp at h0; subst h0; rfl)
  go_enter Tryz.func52, Tryz.ntmps52
  go_wp2
  go_ret
  rw [hres.out]
  exact ⟨rfl, (Below.refl _ _).alloc (Nat.le_refl _) _⟩
 rcases Bool.eq_false_or_eq_true (decide ((ns.length : Int) > 4000)) with h4 | h4
 ·have hres := am (show treeOkI ns = false by simp at h4; unfold treeOkI; rw [decide_eq_false (by omega)]; rfl)
  go_enter Tryz.func52, Tryz.ntmps52
  go_wp2
  go_ret
  rw [hres.out]
  exact ⟨rfl, (Below.refl _ _).alloc (Nat.le_refl _) _⟩
 have hlen : ns.length ≤ 4000 := by simp at h4; omega
 have hpos : 1 ≤ ns.length := by simp at h0; cases ns with | nil => exact absurd rfl h0 | cons _ _ => simp
 have hmm := fun t w => run_makeMap (P := Tryz.prog) t w
 go_enter Tryz.func52, Tryz.ntmps52
 have HLEN := am (And.intro hpos hlen)
 clear hpos hln
 go_wp2
 clear h0 h4
 go_loopg [4, 24] (ns.length + 1) (fun kq v4 v24 w' => ∃ (x : Int) (left : List Nat), v24 = .int .i64 x ∧ Aside0 (LoopAt ns kq x left) ∧ Aside0 (Kd.R (Kd.int .i64) 3 w' w.heap.size (fun _ => True) v4 (ints left)) ∧ Aside0 (MapIs (fun n : Int => Value.int .i64 n) w' (w.heap.size + 1) (idsSeen (ns.take x.toNat))) ∧ Aside0 (Below w.heap.size w w'))
 case atStart =>
  refine ⟨0, [], rfl, ⟨by omega, by simp, by omega, by simp, ?_, by simp⟩, ⟨?_⟩, ⟨?_⟩, ⟨((((Below.refl _ w).alloc (Nat.le_refl _) _).alloc (by simp) _).alloc (by simp; omega) _)⟩⟩
  ·have := HLEN.out
   unfold treeOkI
   rw [decide_eq_true this, Bool.true_and]
   rfl
  ·have h := own_lit ((w.alloc (Obj.cells #[Value.slice A ns.length c] 31)).alloc (Obj.map #[] 0)) w.heap.size 3 .i64 [] (by simp; omega) (by simp)
   exact Kd.R_of_own (enc := Value.int .i64) (h1 := fun _ => rfl) (by simpa [nums, ints, encs] using h) (fun _ _ => trivial)
  ·have h := (MapIs.made (enc := fun n : Int => Value.int .i64 n) (w.alloc (Obj.cells #[Value.slice A ns.length c] 31)))
   exact (by simpa using h : MapIs (fun n : Int => Value.int .i64 n) ((w.alloc (Obj.cells #[Value.slice A ns.length c] 31)).alloc (Obj.map #[] 0)) (w.heap.size + 1) []).below ((Below.refl _ _).alloc (Nat.le_refl _) _)
 case round =>
  obtain ⟨x, left, rfl, HX, HO, HM, HB⟩ := hrel
  obtain ⟨p, hk, hi, hl, hT, hle⟩ := HX.out
  by_cases hlt : x < (ns.length : Int)
  ·obtain ⟨ad, A3, c3, e, hx0, hx1, hx2, hx3, hx4, hx5, hl3, hi3⟩ := at_T95 HR.out x p hlt
   cases e
   replace hx0 := (HB.out.cell (World.block_lt_of_cell? w _ hx0)).trans hx0
   replace hx1 := (HB.out.cell (World.block_lt_of_cell? w _ hx1)).trans hx1
   replace hx2 := (HB.out.cell (World.block_lt_of_cell? w _ hx2)).trans hx2
   replace hx3 := (HB.out.cell (World.block_lt_of_cell? w _ hx3)).trans hx3
   replace hx4 := (HB.out.cell (World.block_lt_of_cell? w _ hx4)).trans hx4
   replace hx5 := (HB.out.cell (World.block_lt_of_cell? w _ hx5)).trans hx5
   have HL3 := am hl3
   rw [iloop_rd ns x p hlt] at hT
   have HT := am hT
   have hmaxx : x < 9223372036854775807 := by have := HLEN.out; omega
   have hlt1 : decide (x < (ns.length : Int)) = true := decide_eq_true hlt
   clear hk hi hl hT hle hl3
   replace p := eq_true p
   have q := eq_true hlt
   rcases Bool.eq_false_or_eq_true (nodeRightB (rd_T95 ns x) (x == 0)) with hN | hN
   ·have HN := am hN
    rcases Bool.eq_false_or_eq_true (((ns.take x.toNat).map (·.f0)).contains (rd_T95 ns x).f0) with hS | hS
    ·have HS := am (show mlook (idsSeen (ns.take x.toNat)) (rd_T95 ns x).f0 = some (.bool true) by rw [look_ids, if_pos hS])
     have hres := am (show treeOkI ns = false by rw [HT.out, hS, Bool.or_true]; rfl)
     clear hS
     go_wp2_with (first | (go_at_call 83; refine (nodeRight_is (rd_T95 ns x) A3 c3 (x == 0) true _ (Kd.C_below hi3 (HB.out.alloc HB.out.size _)) HL3.out HN.out).mono ?_; rintro e w9 ⟨rfl, hb9⟩; have hd0 : w9.cell? ⟨wr.heap.size, 0, none⟩ = some (.int .i64 (rd_T95 ns x).f0) := (hb9.cell (p := ⟨wr.heap.size, 0, none⟩) (by simp)).trans (cell_newest _ _ _ _ _); have hd5 : w9.cell? ⟨wr.heap.size, 5, none⟩ = some (.int .i64 (rd_T95 ns x).f5) := (hb9.cell (p := ⟨wr.heap.size, 5, none⟩) (by simp)).trans (cell_newest _ _ _ _ _); have HK9 := am ((hb9.block wr.heap.size (by simp)).trans (blk_newest wr (Obj.cells (nodeCells (rd_T95 ns x) A3 c3).toArray 95))); have HA9 := am (((Below.refl _ wr).alloc (Nat.le_refl _) (Obj.cells (nodeCells (rd_T95 ns x) A3 c3).toArray 95)).trans (hb9.mono (by simp))); have HS9 := am hb9.size; clear hb9) | (at_lookup; refine gate_guard (by simp [Region.wanted, yielded, go_sem]) ?_; refine wp_lookup _ rfl _ _ _ _ _ rfl keyI Tryz.underlying135 (.bool false) (zeroB _) (w.heap.size + 1) _ rfl (HM.out.below HA9.out) (rd_T95 ns x).f0 rfl ?_; rw [HS.out]))
     go_ret
     rw [hres.out]
     exact ⟨rfl, HB.out.trans (HA9.out.mono HB.out.size)⟩
    ·have HS := am (show mlook (idsSeen (ns.take x.toNat)) (rd_T95 ns x).f0 = none by rw [look_ids, if_neg (by rw [hS]; simp)])
     have HT2 := am (show treeOkI ns = (if (!(x == 0) && (dropz left).isEmpty) || decide (400 < (dropz left).length) then false else iloop false ((ns.take x.toNat).map (·.f0) ++ [(rd_T95 ns x).f0]) (kid (rd_T95 ns x) :: dec (dropz left)) (ndsI (ns.drop (x.toNat + 1)))) by rw [HT.out, HN.out, hS]; rfl)
     clear hS HT
     go_upto_block 2 with (first | (go_at_call 83; refine (nodeRight_is (rd_T95 ns x) A3 c3 (x == 0) true _ (Kd.C_below hi3 (HB.out.alloc HB.out.size _)) HL3.out HN.out).mono ?_; rintro e w9 ⟨rfl, hb9⟩; have hd0 : w9.cell? ⟨wr.heap.size, 0, none⟩ = some (.int .i64 (rd_T95 ns x).f0) := (hb9.cell (p := ⟨wr.heap.size, 0, none⟩) (by simp)).trans (cell_newest _ _ _ _ _); have hd5 : w9.cell? ⟨wr.heap.size, 5, none⟩ = some (.int .i64 (rd_T95 ns x).f5) := (hb9.cell (p := ⟨wr.heap.size, 5, none⟩) (by simp)).trans (cell_newest _ _ _ _ _); have HK9 := am ((hb9.block wr.heap.size (by simp)).trans (blk_newest wr (Obj.cells (nodeCells (rd_T95 ns x) A3 c3).toArray 95))); have HA9 := am (((Below.refl _ wr).alloc (Nat.le_refl _) (Obj.cells (nodeCells (rd_T95 ns x) A3 c3).toArray 95)).trans (hb9.mono (by simp))); have HS9 := am hb9.size; clear hb9) | (at_lookup; refine gate_guard (by simp [Region.wanted, yielded, go_sem]) ?_; refine wp_lookup _ rfl _ _ _ _ _ rfl keyI Tryz.underlying135 (.bool false) (zeroB _) (w.heap.size + 1) _ rfl (HM.out.below HA9.out) (rd_T95 ns x).f0 rfl ?_; rw [HS.out]) | (at_mapUpdate; refine wp_store_new _ rfl _ _ _ _ _ _ rfl keyI Tryz.underlying135 (w.heap.size + 1) _ rfl (HM.out.below HA9.out) (rd_T95 ns x).f0 rfl (.bool true) rfl HS.out ?_; intro w10 hm10 hg10; have hne10 : some wr.heap.size ≠ some (w.heap.size + 1) := (fun e => by injection e with e; have := HM.out.lt; omega); have hd05 : w10.cell? ⟨wr.heap.size, 5, none⟩ = some (.int .i64 (rd_T95 ns x).f5) := (World.cell?_of_block (w := w9) (hg10.block wr.heap.size (World.block_lt_of_cell? w9 _ hd5) hne10)).trans hd5; have HK10 := am ((hg10.block wr.heap.size (blk_lt HK9.out) hne10).trans HK9.out); have HM10 := am hm10; have HO10 := am (R_map (Kd.R_below HO.out HA9.out) (MapIs.is (HM.out.below HA9.out)).choose_spec.choose_spec hg10); have HB10 := am ((HB.out.trans (HA9.out.mono HB.out.size)).grown hg10 (HB.out.trans (HA9.out.mono HB.out.size)).size (fun k e => by injection e with e; omega)); clear hm10 hg10 hne10 hd0 hd5 hx0 hx1 hx2 hx3 hx4 hx5))
     (try simp only [Act.put, List.setIfInBounds_toArray, List.set_cons_zero, List.set_cons_succ])
     go_cut [4] (fun v4 wc => wc = w10 ∧ Aside0 (Kd.R (Kd.int .i64) 3 w10 w.heap.size (fun _ => True) v4 (ints (dropz left))))
     case first =>
      go_wp2
      go_loopg [4] (left.length + 1) (fun kq v4 w' => ∃ l2 : List Nat, Aside0 (l2.length + 1 = kq ∧ dropz l2 = dropz left ∧ l2.length ≤ 4000) ∧ w' = w10 ∧ Aside0 (Kd.R (Kd.int .i64) 3 w10 w.heap.size (fun _ => True) v4 (ints l2)))
      case atStart => exact ⟨left, ⟨rfl, rfl, by have := HX.out.2.2.2.1; have := HLEN.out; have := HX.out.2.2.1; omega⟩, rfl, HO10⟩
      case round =>
       obtain ⟨l2, HX2, hw, HO2⟩ := hrel
       subst hw
       cases l2 with
       | nil =>
        have HD := am HX2.out.2.1
        obtain ⟨A4, c4, e4⟩ := Kd.R_slice HO2.out
        subst e4
        go_wp2
        go_meet
        case rel => exact ⟨rfl, ⟨by rw [← HD.out]; exact HO2.out⟩⟩
       | cons a r =>
        have HD := am HX2.out.2.1
        obtain ⟨A4, c4, e4⟩ := Kd.R_slice HO2.out
        subst e4
        have hlen : (ints (a :: r)).length = r.length + 1 := by rw [ints_length]; rfl
        obtain ⟨ad4, e4, hx4⟩ := Kd.at_int (Kd.R_reads' HO2.out).2.2 (r.length : Int) (by omega) (by rw [hlen]; omega)
        cases e4
        have hrd : rd (ints (a :: r)) (r.length : Int) = a := by rw [ints_cons, ← ints_length r]; exact rd_last _ _
        rw [hrd, Int.toNat_natCast] at hx4
        have HO3 := am (show Kd.R (Kd.int .i64) 3 wr w.heap.size (fun _ => True) (.slice (some ad4) (r.length + 1) c4) (ints (a :: r)) by have := HO2.out; rwa [hlen] at this)
        rw [hlen]
        clear hlen hrd HO2
        have hrl : r.length ≤ 3999 := by have := HX2.out.2.2; simp only [List.length_cons] at this; omega
        by_cases ha : a = 0
        ·subst ha
         obtain ⟨i0, hi0, _, hsz0, _⟩ := info_parts info3
         have hcut := cut_to (P := Tryz.prog) 44 3 .i64 Tryz.underlying44 hi0 (some ad4) (r.length + 1) c4 (r.length : Int) (by omega) (by omega) (Kd.R_reads' HO3.out).2.1
         go_wp2
         go_roundg (gk - 1)
         case measure => have := HX2.out.1; simp only [List.length_cons] at this; omega
         case rel =>
          have h1 := HX2.out
          simp only [List.length_cons] at h1
          refine ⟨r, ⟨by omega, by rw [← h1.2.1]; simp [dropz], by omega⟩, rfl, ⟨?_⟩⟩
          have h2 := Kd.R_take (m := r.length) HO3.out (by rw [ints_length]; simp)
          have h3 : (ints (0 :: r)).take r.length = ints r := by rw [ints_cons, ← ints_length r]; simp
          rw [h3] at h2
          exact h2
        ·have HNZ := am (show dropz (a :: r) = a :: r by simp [dropz, ha])
         have ha1 : ((a : Int) == 0) = false := by rw [beq_eq_false_iff_ne]; omega
         clear ha
         go_wp2
         go_meet
         case rel => exact ⟨rfl, ⟨by rw [← HD.out, HNZ.out]; exact HO3.out⟩⟩
     case rest =>
      obtain ⟨hw, HO2⟩ := hcut
      subst hw
      have HLb := am (show (dropz left).length ≤ x.toNat ∧ (∀ a ∈ dropz left, (a : Int) ≤ 9223372036854775807) ∧ (∀ a r, dropz left = a :: r → 0 < a) from ⟨Nat.le_trans (dropz_length left) HX.out.2.2.2.1, fun a h => HX.out.2.2.2.2.2 a (dropz_mem _ _ h), fun a r h => dropz_head _ _ _ h⟩)
      generalize dropz left = L at HO2 HT2 HLb
      cases L with
      | nil =>
       obtain ⟨A4, c4, e4⟩ := Kd.R_slice HO2.out
       subst e4
       have HO3 := am (show Kd.R (Kd.int .i64) 3 wc w.heap.size (fun _ => True) (.slice A4 0 c4) (ints []) from HO2.out)
       rw [show (ints []).length = 0 from rfl]
       clear HO2
       rcases Bool.eq_false_or_eq_true (x == 0) with hx0 | hx0
       ·have hxp : decide (0 < x) = false := by rw [beq_iff_eq] at hx0; exact decide_eq_false (by omega)
        have HX0 := am hx0
        clear hx0
        go_wp2_with (first | ((with_reducible refine gate_builtin (b := .append) (xs := #[.tmp 83, .tmp 86]) rfl ?_); at_builtin; refine Kd.R_append (Kd.int .i64) (w0 := w) w.heap.size rfl (.tmp 83) (.tmp 86) 44 3 (.int .i64 0) 8 rfl Tryz.underlying44 info3 rfl (by decide) (by omega) (.slice A4 0 c4) (ints []) ((rd_T95 ns x).f5) [.int .i64 ((rd_T95 ns x).f5)] (fun _ => True) (fun _ => False) rfl rfl ?aP (fun _ hk => hk.elim) ?aF ?aO ?aB ?aS ?aL ?_; (case aP => exact rfl); (case aB => exact HB10.out); (case aF => exact (fun _ _ => trivial)); (case aO => exact HO3.out); (case aS => exact (below_size HB10.out)); (case aL => have := HLb.out.1; have := HLEN.out; have := HX.out.2.2.1; simp only [ints_length, List.length_cons] at *; omega); intro v12 w12 ho hb hg hat; have HO12 := am ho; have HB12 := am hb; have HG12 := am hg; clear ho hb hg hat))
        go_roundg (gk - 1)
        case measure => have := HX.out.2.1; have := HX.out.2.2.1; omega
        case rel =>
         have hq := HX.out.1
         refine ⟨x + 1, kid (rd_T95 ns x) :: dec [], by rw [w64 (by omega) (by omega)], ⟨HX.out.next hlt HLb.out HT2.out (by rw [HX0.out]; rfl) HWF.out⟩, ⟨?_⟩, ⟨?_⟩, HB12⟩
         ·rw [ints_cons, kid_of_right HN.out]; exact HO12.out
         ·rw [ids_next hq hlt]; exact MapIs.beside HM10.out HO3.out HG12.out
       ·have hxp : decide (0 < x) = true := by rw [beq_eq_false_iff_ne] at hx0; exact decide_eq_true (by have := HX.out.1; omega)
        have hres := am (show treeOkI ns = false by rw [HT2.out, hx0]; rfl)
        clear hx0
        go_wp2
        go_ret
        rw [hres.out]
        exact ⟨rfl, HB10.out⟩
      | cons a r =>
       obtain ⟨g4, c4, e4, gb4, gl4, cl4, hg4⟩ := Kd.R_form HO2.out (by rw [ints_length]; simp)
       subst e4
       have hlen : (ints (a :: r)).length = r.length + 1 := by rw [ints_length]; rfl
       have HO3 := am (show Kd.R (Kd.int .i64) 3 wc w.heap.size (fun _ => True) (.slice (some ⟨g4, 0, none⟩) (r.length + 1) c4) (ints (a :: r)) by have := HO2.out; rwa [hlen] at this)
       rw [hlen]
       clear HO2
       have GB4 := am gb4
       have hl0 : ((r.length : Int) + 1 == 0) = false := by rw [beq_eq_false_iff_ne]; omega
       rcases Bool.eq_false_or_eq_true (decide ((r.length : Int) + 1 > 400)) with hdeep | hdeep
       ·have hres := am (show treeOkI ns = false by rw [HT2.out, List.length_cons, decide_eq_true (show 400 < r.length + 1 by have := of_decide_eq_true hdeep; omega), Bool.or_true]; rfl)
        clear hlen
        rcases Bool.eq_false_or_eq_true (decide (0 < x)) with hxp | hxp
        all_goals
         go_wp2
         go_ret
         rw [hres.out]
         exact ⟨rfl, HB10.out⟩
       ·have HDP := am (show decide (400 < (a :: r).length) = false by rw [List.length_cons, decide_eq_false_iff_not]; have := of_decide_eq_false hdeep; omega)
        obtain ⟨hx4, hf4⟩ := Kd.R_celln (0 : Int) HO3.out (r.length : Int) (by omega) (by omega)
        have hrd : rdOf (0 : Int) (ints (a :: r)) (r.length : Int) = a := by rw [ints_cons, ← ints_length r]; simp [rdOf]
        rw [hrd, Int.toNat_natCast] at hx4
        rw [Int.toNat_natCast] at hf4
        have ha := HLb.out.2.2 a r rfl
        have ha2 := HLb.out.2.1 a List.mem_cons_self
        have hp := Kd.R_putg HO3.out (r.length : Int) ((a : Int) - 1)
        have hset : (ints (a :: r)).set r.length ((a : Int) - 1) = ints (dec (a :: r)) := by
         rw [show (a : Int) - 1 = ((a - 1 : Nat) : Int) from by omega]
         rw [ints_cons, ← ints_length r, set_last]
         simp only [dec]
         rw [ints_cons]
        rw [Int.toNat_natCast, hset] at hp
        have HP := am hp
        have hne : wr.heap.size ≠ g4 := by
         intro e
         have h1 := HK10.out
         rw [e, hg4] at h1
         injection h1 with h1
         injection h1 with _ h1
         revert h1
         decide
        have hrl : r.length ≤ 3999 := by have h1 := HLb.out.1; simp only [List.length_cons] at h1; have := HLEN.out; have := HX.out.2.2.1; omega
        clear hlen hrd hset hp gb4 gl4 hg4
        rcases Bool.eq_false_or_eq_true (decide (0 < x)) with hxp | hxp
        all_goals
         go_wp2_with (first | ((with_reducible refine gate_store (t := 3) (p := 82) rfl ?_); refine store_event (t := 3) (p := 82) (v := ?vo) (w1 := wc.setCell ⟨g4, r.length, none⟩ (.int .i64 ((a : Int) - 1))) ?hg ?ho ?hn ?hr ?_; (case ho => rfl); (case hg => rfl); (case hn => rfl); (case hr => first | (go_simp; done) | (go_simp; rfl)); intro w11 hw11; have HO5 := am (show Kd.R (Kd.int .i64) 3 w11 w.heap.size (fun _ => True) (.slice (some ⟨g4, 0, none⟩) (r.length + 1) c4) (ints (dec (a :: r))) by rw [hw11]; exact HP.out.1); have HG5 := am (show wc.grownBy w11 (some g4) by rw [hw11]; exact HP.out.2); have HB11 := am (show Below w.heap.size w w11 by rw [hw11]; exact below_set HB10.out GB4.out); have hd11 : w11.cell? ⟨wr.heap.size, 5, none⟩ = some (.int .i64 (rd_T95 ns x).f5) := (World.cell?_of_block (w := wc) (HG5.out.block wr.heap.size (World.block_lt_of_cell? wc _ hd05) (fun e => by injection e with e; exact hne e))).trans hd05; clear hw11 hd05 hx4 hf4) | ((with_reducible refine gate_builtin (b := .append) (xs := #[.tmp 83, .tmp 86]) rfl ?_); at_builtin; refine Kd.R_append (Kd.int .i64) (w0 := w) w.heap.size rfl (.tmp 83) (.tmp 86) 44 3 (.int .i64 0) 8 rfl Tryz.underlying44 info3 rfl (by decide) (by omega) (.slice (some ⟨g4, 0, none⟩) (r.length + 1) c4) (ints (dec (a :: r))) ((rd_T95 ns x).f5) [.int .i64 ((rd_T95 ns x).f5)] (fun _ => True) (fun _ => False) rfl rfl ?aP (fun _ hk => hk.elim) ?aF ?aO ?aB ?aS ?aL ?_; (case aP => exact rfl); (case aB => exact HB11.out); (case aF => exact (fun _ _ => trivial)); (case aO => exact HO5.out); (case aS => exact (below_size HB11.out)); (case aL => rw [ints_length]; simp only [dec, List.length_cons]; omega); intro v12 w12 ho hb hg hat; have HO12 := am ho; have HB12 := am hb; have HG12 := am hg; clear ho hb hg hat))
         go_roundg (gk - 1)
         case measure => have := HX.out.2.1; have := HX.out.2.2.1; omega
         case rel =>
          have hq := HX.out.1
          refine ⟨x + 1, kid (rd_T95 ns x) :: dec (a :: r), by rw [w64 (by omega) (by omega)], ⟨HX.out.next hlt HLb.out HT2.out (by rw [HDP.out]; simp) HWF.out⟩, ⟨?_⟩, ⟨?_⟩, HB12⟩
          ·rw [ints_cons, kid_of_right HN.out]; exact HO12.out
          ·rw [ids_next hq hlt]; exact MapIs.beside (MapIs.beside HM10.out HO3.out HG5.out) HO5.out HG12.out
   ·have HN := am hN
    have hres := am (show treeOkI ns = false by rw [HT.out, hN]; rfl)
    clear hN
    go_wp2_with (first | (go_at_call 83; refine (nodeRight_is (rd_T95 ns x) A3 c3 (x == 0) false _ (Kd.C_below hi3 (HB.out.alloc HB.out.size _)) HL3.out HN.out).mono ?_; rintro e w9 ⟨rfl, hb9⟩; have hd0 : w9.cell? ⟨wr.heap.size, 0, none⟩ = some (.int .i64 (rd_T95 ns x).f0) := (hb9.cell (p := ⟨wr.heap.size, 0, none⟩) (by simp)).trans (cell_newest _ _ _ _ _); have hd5 : w9.cell? ⟨wr.heap.size, 5, none⟩ = some (.int .i64 (rd_T95 ns x).f5) := (hb9.cell (p := ⟨wr.heap.size, 5, none⟩) (by simp)).trans (cell_newest _ _ _ _ _); have HK9 := am ((hb9.block wr.heap.size (by simp)).trans (blk_newest wr (Obj.cells (nodeCells (rd_T95 ns x) A3 c3).toArray 95))); have HA9 := am (((Below.refl _ wr).alloc (Nat.le_refl _) (Obj.cells (nodeCells (rd_T95 ns x) A3 c3).toArray 95)).trans (hb9.mono (by simp))); have HS9 := am hb9.size; clear hb9))
    go_ret
    rw [hres.out]
    exact ⟨rfl, HB.out.trans (HA9.out.mono HB.out.size)⟩
  ·have hT := HX.out.2.2.2.2.1
   have hk := HX.out.2.1
   have hi := HX.out.2.2.1
   rw [show ns.drop x.toNat = [] from List.drop_eq_nil_of_le (by omega)] at hT
   have HT := am (show treeOkI ns = left.all (fun k => k == 0) from hT)
   have hlt1 : decide (x < (ns.length : Int)) = false := decide_eq_false hlt
   have HLm := am (show left.length ≤ 4001 by have := HX.out.2.2.2.1; have := HLEN.out; omega)
   clear hT hk hi hlt HX
   obtain ⟨A4, c4, e4⟩ := Kd.R_slice HO.out
   subst e4
   go_wp2
   obtain ⟨wo, hwo⟩ : ∃ wo : World, wo = wr := ⟨_, rfl⟩
   rw [← hwo]
   have HOo := am (show Kd.R (Kd.int .i64) 3 wo w.heap.size (fun _ => True) (.slice A4 (ints left).length c4) (ints left) by rw [hwo]; exact HO.out)
   have HBo := am (show Below w.heap.size w wo by rw [hwo]; exact HB.out)
   clear hwo HO HM HB
   go_loopg [91] ((ints left).length + 1) (fun kq v91 w' => ∃ y : Int, v91 = .int .i64 y ∧ w' = wo ∧ Aside0 (0 ≤ y ∧ y.toNat + kq = (ints left).length + 1 ∧ y ≤ (ints left).length ∧ ∀ j : Nat, j < y.toNat → (ints left).getD j 0 = 0))
   case atStart => exact ⟨0, rfl, rfl, ⟨by omega, by simp, by omega, fun j h => by simp at h⟩⟩
   case round =>
    obtain ⟨y, rfl, hw, HY⟩ := hrel
    subst hw
    have p := HY.out.1
    have hlm : (ints left).length ≤ 4001 := by rw [ints_length]; exact HLm.out
    by_cases hy : y < ((ints left).length : Int)
    ·obtain ⟨ad5, e5, hx5⟩ := Kd.at_int (Kd.R_reads' HOo.out).2.2 y p hy
     cases e5
     have hlt2 : decide (y < ((ints left).length : Int)) = true := decide_eq_true hy
     have hym : y < 4001 := by omega
     rcases Bool.eq_false_or_eq_true (rd (ints left) y == 0) with hz | hz
     ·have hz2 : (rd (ints left) y != 0) = false := by rw [bne, hz]; rfl
      have HZ := am hz
      clear hz
      replace p := eq_true p
      have q := eq_true hy
      go_wp2
      go_roundg (gk - 1)
      case measure => have := HY.out.2.1; have := HY.out.2.2.1; omega
      case rel =>
       obtain ⟨a1, a2, a3, a4⟩ := HY.out
       refine ⟨y + 1, by first | rfl | rw [w64 (by omega) (by omega)], rfl, ⟨by omega, by omega, by omega, fun j hj => ?_⟩⟩
       by_cases e : j = y.toNat
       ·subst e
        have := HZ.out
        rw [beq_iff_eq] at this
        exact this
       ·exact a4 j (by omega)
     ·have hz2 : (rd (ints left) y != 0) = true := by rw [bne, hz]; rfl
      have hres := am (show treeOkI ns = false by
       rw [HT.out, ← Bool.not_eq_true]
       intro h
       have := (ints_all left).1 h y.toNat (by omega)
       rw [show rd (ints left) y = (ints left).getD y.toNat 0 from rfl, this] at hz
       cases hz)
      clear hz
      replace p := eq_true p
      have q := eq_true hy
      go_wp2
      go_ret
      rw [hres.out]
      exact ⟨rfl, HBo.out⟩
    ·have hres := am (show treeOkI ns = true by
      rw [HT.out]
      exact (ints_all left).2 (fun j hj => HY.out.2.2.2 j (by omega)))
     have hlt2 : decide (y < ((ints left).length : Int)) = false := decide_eq_false hy
     clear hy
     go_wp2
     go_ret
     rw [hres.out]
     exact ⟨rfl, HBo.out⟩
theorem set_block {w w1 : World} {g j : Nat} {v : Value} {cs : Array Value} {t : TypeId} (hw : w1 = w.setCell ⟨g, j, none⟩ v) (hb : w.heap[g]? = some (.cells cs t (0, 0))) :
  w1.heap[g]? = some (.cells (cs.setIfInBounds j v) t (0, 0)) ∧ (∀ k, k ≠ g → w1.heap[k]? = w.heap[k]?) ∧ w1.heap.size = w.heap.size ∧ ∀ B w0, Below B w0 w → B ≤ g → Below B w0 w1 := by
 subst hw
 have hg := blk_lt hb
 refine ⟨?_, fun k hk => Below.heap_setCell w ⟨g, j, none⟩ v k hk, by simp [World.setCell], fun B w0 h hB => h.setCell hB v⟩
 simp only [World.setCell, Array.getElem?_modify]
 rw [hb]
 simp
def ptr (b : Nat) : Value := .pointer (some ⟨b, 0, none⟩)
def ptrK : Kd Nat := Kd.scalar ptr (fun _ => rfl)
abbrev PtrRow (w : World) (base : Nat) (v : Value) (bs : List Nat) : Prop := ptrK.R 97 w base (fun _ => True) v bs
def twigCells (n : S95) (A : Option Addr) (c : Nat) (kv up : Value) (pl : Int) : Array Value :=
 #[.int .i64 n.f0, .int .i64 n.f1, .string n.f2, .slice A n.f3.length c, .string n.f4, .int .i64 n.f5, kv, up, .int .i64 pl]
def Twig (R : World → Prop) (w : World) (b : Nat) (n : S95) (kv up : Value) (pl : Int) : Prop :=
 ∃ A c, n.f3.length ≤ c ∧ (∀ W, R W → Kd.C k149 W A n.f3.length n.f3) ∧ w.heap[b]? = some (.cells (twigCells n A c kv up pl) 99 (0, 0))
def KidsAre (ks : List Nat) (bs : List Nat) (j : Nat) (kl : List Nat) : Prop :=
 kl.length = ks.getD j 0 ∧ ∀ i c, Kid ks j i c → kl[i]? = some (bs.getD c 0)
structure Laid (ns : List S95) (R : World → Prop) (w : World) (base : Nat) (bs : List Nat) (KV : Nat → Value) (lo p q : Nat) : Prop where
 twig : ∀ j, p ≤ j → j < q → ∃ up pl, Twig R w (bs.getD j 0) (ns.getD j z95) (KV j) up pl ∧ ∀ P i, lo ≤ P → Kid (kids ns) P i j → up = ptr (bs.getD P 0) ∧ pl = (i : Int)
 row : ∀ j, p ≤ j → j < q → ∃ kl, PtrRow w base (KV j) kl ∧ KidsAre (kids ns) bs j kl
 apart : ∀ j j', p ≤ j → j < q → p ≤ j' → j' < q → j ≠ j' → (KV j).ownBlock = none ∨ (KV j).ownBlock ≠ (KV j').ownBlock
section
variable {ns : List S95} {R : World → Prop} {w w1 : World} {base : Nat} {bs bs' : List Nat} {KV KV' : Nat → Value} {lo p q : Nat} {b : Nat} {n : S95} {kv up : Value} {pl : Int}
theorem Twig.keep (h : Twig R w b n kv up pl) (hb : w1.heap[b]? = w.heap[b]?) : Twig R w1 b n kv up pl := by
 obtain ⟨A, c, h1, h2, h3⟩ := h
 exact ⟨A, c, h1, h2, hb.trans h3⟩
theorem Twig.lt (h : Twig R w b n kv up pl) : b < w.heap.size := by
 obtain ⟨A, c, h1, h2, h3⟩ := h
 exact blk_lt h3
theorem row_keep {v : Value} {kl : List Nat} (h : PtrRow w base v kl) (hm : ∀ k, v.ownBlock = some k → w1.heap[k]? = w.heap[k]?) : PtrRow w1 base v kl := by
 have h2 := Kd.R_tight rfl h
 exact Kd.R_mono (Kd.R_move h2 (fun k hk => hm k hk.symm)) (fun _ _ => trivial)
theorem row_typed {v : Value} {kl : List Nat} (h : PtrRow w base v kl) (k : Nat) (hk : v.ownBlock = some k) : ∃ cells, w.heap[k]? = some (.cells cells 97 (0, 0)) := by
 obtain ⟨inner, ho⟩ := Kd.R_own h
 exact own_typed ho k hk
theorem row_base {v : Value} {kl : List Nat} (h : PtrRow w base v kl) (k : Nat) (hk : v.ownBlock = some k) : base ≤ k ∧ k < w.heap.size := by
 obtain ⟨inner, ho⟩ := Kd.R_own h
 exact ⟨own_base ho k hk, own_lt ho k hk⟩
theorem Twig.ne_row (h : Twig R w b n kv up pl) {v : Value} {kl : List Nat} (hr : PtrRow w base v kl) : some b ≠ v.ownBlock := by
 intro e
 obtain ⟨A, c, h1, h2, h3⟩ := h
 obtain ⟨cells, hc⟩ := row_typed hr b e.symm
 rw [h3] at hc
 injection hc with hc
 injection hc with _ hc
 revert hc
 decide
theorem Twig.ne_typed (h : Twig R w b n kv up pl) {g t : Nat} {cs : Array Value} (hg : w.heap[g]? = some (.cells cs t (0, 0))) (ht : t ≠ 99) : b ≠ g := by
 intro e
 obtain ⟨A, c, h1, h2, h3⟩ := h
 rw [e, hg] at h3
 injection h3 with h3
 injection h3 with _ h3
 exact ht h3
theorem row_ne_typed {v : Value} {kl : List Nat} (hr : PtrRow w base v kl) {g t : Nat} {cs : Array Value} (hg : w.heap[g]? = some (.cells cs t (0, 0))) (ht : t ≠ 97) : some g ≠ v.ownBlock := by
 intro e
 obtain ⟨cells, hc⟩ := row_typed hr g e.symm
 rw [hg] at hc
 injection hc with hc
 injection hc with _ hc
 exact ht hc
theorem Laid.keep (h : Laid ns R w base bs KV lo p q) (h1 : ∀ j, p ≤ j → j < q → w1.heap[bs.getD j 0]? = w.heap[bs.getD j 0]?) (h2 : ∀ j, p ≤ j → j < q → ∀ k, (KV j).ownBlock = some k → w1.heap[k]? = w.heap[k]?) :
  Laid ns R w1 base bs KV lo p q where
 twig := fun j a c => by
  obtain ⟨up, pl, ht, hp⟩ := h.twig j a c
  exact ⟨up, pl, ht.keep (h1 j a c), hp⟩
 row := fun j a c => by
  obtain ⟨kl, hr, hk⟩ := h.row j a c
  exact ⟨kl, row_keep hr (h2 j a c), hk⟩
 apart := h.apart
theorem Laid.below (h : Laid ns R w base bs KV lo p q) (hb : Below w.heap.size w w1) : Laid ns R w1 base bs KV lo p q :=
 h.keep (fun j a c => by obtain ⟨up, pl, ht, _⟩ := h.twig j a c; exact hb.block _ ht.lt) (fun j a c k hk => by obtain ⟨kl, hr, _⟩ := h.row j a c; exact hb.block k (row_base hr k hk).2)
theorem Laid.mem (h : Laid ns R w base bs KV lo p q) (h1 : ∀ k, k < w.heap.size → ((∃ j, p ≤ j ∧ j < q ∧ (k = bs.getD j 0 ∨ (KV j).ownBlock = some k)) → w1.heap[k]? = w.heap[k]?)) : Laid ns R w1 base bs KV lo p q :=
 h.keep (fun j a c => by obtain ⟨up, pl, ht, _⟩ := h.twig j a c; exact h1 _ ht.lt ⟨j, a, c, .inl rfl⟩) (fun j a c k hk => by obtain ⟨kl, hr, _⟩ := h.row j a c; exact h1 k (row_base hr k hk).2 ⟨j, a, c, .inr hk⟩)
end
end Go.Proofs.YthjgohbkpjhkeaaGreatDoor.Impl
