/- Part 24 of the proof: DoSpecG, DoSpecM, DoSpecD, DoSpecE, DoSpecJ, DoSpecK. -/
import Derived.Test.YthjgohbkpjhkeaaGreatDoorA21
import Derived.Test.YthjgohbkpjhkeaaGreatDoorA23
import Derived.Test.YthjgohbkpjhkeaaGreatDoorA1
set_option linter.unusedVariables false
set_option linter.unusedSimpArgs false
namespace Go.Proofs.YthjgohbkpjhkeaaGreatDoor.FireSpec
open Go.RowKit Go.Proofs.YthjgohbkpjhkeaaGreatDoorW.PrintWords Go.Proofs.YthjgohbkpjhkeaaGreatDoor.PFnExactDo Go.Proofs.YthjgohbkpjhkeaaGreatDoor.Tr Go.Proofs.YthjgohbkpjhkeaaGreatDoor.Impl
structure Good (ns : List Node) : Prop where
 b : ns.length ≤ 4000
 k : ∀ n ∈ ns, 0 ≤ n.f5
 m : ∀ n ∈ ns, n.f5 ≤ ns.length
 w : E (kids ns) 0 1 = some ns.length
 a : ∀ n ∈ ns, n.f3.length < 4398046511104
theorem Good.of {ns : List Node} (h : treeOk ns = true) (ha : ∀ n ∈ ns, n.f3.length < 4398046511104) : Good ns := by
 obtain ⟨_, h2, h3, h4, h5⟩ := treeOk_parts h
 exact ⟨h2, h3, h5, h4, ha⟩
section
variable {ns : List Node} {P i j e : Nat}
theorem Good.own (g : Good ns) {p : Nat} (hp : p < ns.length) : ∃ e, E (kids ns) p 1 = some e ∧ e ≤ ns.length := by
 exact E_inside p 0 1 ns.length p rfl g.w (Nat.zero_le _) hp
theorem Good.in_ (g : Good ns) {p : Nat} (hp : p < ns.length) : ∃ e, E (kids ns) (p + 1) ((kids ns).getD p 0) = some e ∧ e ≤ ns.length := by
 obtain ⟨e, h1, h2⟩ := g.own hp
 exact ⟨e, (E_one h1).2, h2⟩
theorem Good.parents (g : Good ns) (hK : Kid (kids ns) P i j) (hj : j < ns.length) : Impl.ParOf ns j P := Impl.par_is g.b g.k g.m g.w hK hj
theorem get_rd {p : Nat} (hp : p < ns.length) : rd_T95 ns (p : Int) = ns[p] := by simp [rd_T95, hp]
theorem set_modify {α : Type} (l : List α) {p : Nat} (hp : p < l.length) (f : α → α) : l.set p (f l[p]) = l.modify p f := by
 apply List.ext_getElem?
 intro q
 rw [List.getElem?_set, List.getElem?_modify]
 by_cases h : p = q
 ·subst h
  simp [hp]
 ·simp [h]
theorem set_cut (hP : P < j) (hj : j ≤ ns.length) (x : Node) (hx : x = withKids ns[P] (kid ns[P] - 1)) : (ns.take j ++ ns.drop e).set P x = cutN ns P j e := by
 unfold cutN
 rw [List.set_append_left _ _ (by rw [List.length_take]; omega), ← set_modify ns (show P < ns.length by omega) (fun n => withKids n (kid n - 1)), List.take_set, hx]
theorem kidsBy_with {n : Node} {m : Int} {k : Nat} (h : n.f5 + m = (k : Int)) : Impl.kidsBy n m = withKids n k := by
 unfold Impl.kidsBy withKids
 rw [h]
theorem cut_f (g : Good ns) (hK : Kid (kids ns) P i j) (he : E (kids ns) j 1 = some e) (hj : j < ns.length) : Impl.CutTo ns j (cutN ns P j e) ((ns.take e).drop j) := by
 have hPj := hK.lt
 have hje := (E_bounds he).2 (by omega)
 have hel : e ≤ ns.length := by have := hje.2; simpa [kids] using this
 have gb := g.b
 obtain ⟨K2, h2⟩ := skip_E (by have := g.b; omega) g.k he
 have hg : ns.getD P z95 = ns[P] := by rw [List.getD_eq_getElem?_getD, List.getElem?_eq_getElem (by omega), Option.getD_some]
 have hkp : 1 ≤ kid ns[P] := by
  have := hK.2.1
  rw [kids_at (by omega)] at this
  omega
 have h0 := g.k _ (List.getElem_mem (show P < ns.length by omega))
 have hm0 := g.m _ (List.getElem_mem (show P < ns.length by omega))
 refine ⟨P, e, K2, ⟨by omega, g.a⟩, hPj, by omega, hel, g.parents hK hj, h2 _ (by omega), by rw [hg]; omega, (set_cut hPj (by omega) _ ?_).symm, rfl⟩
 rw [hg]
 exact kidsBy_with (by unfold kid at hkp ⊢; omega)
theorem put_f {what : List Node} {p q : Nat} (hb : ns.length ≤ 1000000) (hk : ∀ n ∈ ns, 0 ≤ n.f5) (ha : ∀ n ∈ ns, n.f3.length < 4398046511104) (hbw : what.length ≤ 100000000) (haw : ∀ n ∈ what, n.f3.length < 4398046511104) (hp : p < ns.length) (hi : i < 2 ^ 31) (hE : E (kids ns) (p + 1) i = some q) (hq : q ≤ ns.length) (hkp : kid ns[p] ≤ 1000000) :
  Impl.PutTo ns p i what (putN ns p q what) := by
 have hpq := (E_bounds hE).1
 obtain ⟨K1, h1⟩ := place_f (by omega) hk hp hi hE
 have h0 := hk _ (List.getElem_mem hp)
 have hg : ns.getD p z95 = ns[p] := by rw [List.getD_eq_getElem?_getD, List.getElem?_eq_getElem hp, Option.getD_some]
 refine ⟨p, q, K1, rfl, ⟨by omega, ha⟩, ⟨by omega, haw⟩, by omega, hq, h1 _ (Nat.le_refl _), by rw [hg]; unfold kid at hkp; omega, ?_⟩
 rw [hg, kidsBy_with (k := kid ns[p] + 1) (by unfold kid; omega), List.append_assoc, List.set_append_left _ _ (by rw [List.length_take]; omega)]
 unfold putN
 rw [← set_modify ns hp (fun n => withKids n (kid n + 1)), List.take_set]
theorem next_good (g : Good ns) (hK : Kid (kids ns) P i j) (he : E (kids ns) j 1 = some e) : Ev (fun k => spec_l5Next.f k ns P i) (nextN ns P e) := by
 obtain ⟨e2, h1, h2⟩ := g.in_ (p := P) (by have := hK.1; simpa [kids] using this)
 exact next_f (by have := g.b; omega) g.k hK he h1 h2
theorem number_good (g : Good ns) (hK : Kid (kids ns) P i j) : Ev (fun k => spec_l5Number.f k ns P j) (i : Int) := by
 obtain ⟨e2, h1, h2⟩ := g.in_ (p := P) (by have := hK.1; simpa [kids] using this)
 exact number_kid (by have := g.b; omega) g.k hK h1
theorem remove_f (g : Good ns) (hK : Kid (kids ns) P i j) (he : E (kids ns) j 1 = some e) (hj : j < ns.length) : ∃ k, Impl.ParOf ns j P ∧ spec_l5Number.f k ns P j = some (i : Int) ∧ spec_l5Next.f k ns P i = some (nextN ns P e) ∧ Impl.CutTo ns j (cutN ns P j e) ((ns.take e).drop j) := by
 obtain ⟨K2, h2⟩ := number_good g hK
 obtain ⟨K3, h3⟩ := next_good g hK he
 exact ⟨K2 + K3, g.parents hK hj, h2 _ (by omega), h3 _ (by omega), cut_f g hK he hj⟩
def moveBad (ns : List Node) (C : Chg) (at_ e p : Nat) : Prop := ¬ ((ns.getD p z95).f1 = 1 ∨ (ns.getD p z95).f1 = 2) ∨ (at_ ≤ p ∧ p < e) ∨ C.f3 = C.f1
theorem holds_f (n : Node) : spec_l5Holds.f n.f0 n.f1 n.f2 n.f3 n.f4 n.f5 = some (decide (n.f1 = 1 ∨ n.f1 = 2)) := by
 rw [spec_l5Holds.f, Bool.decide_or]
 rfl
end
structure MoveOk (ns : List Node) (C : Impl.Chg) (j p : Nat) (x : Int) (k P : Nat) (i n0 nx p2 : Int) (c1 c2 out : List Node) : Prop where
 lP : P < ns.length
 hn : (ns.getD P z95).f0 = n0
 g1 : Impl.ParOf ns j P
 g2 : spec_l5Number.f k ns P j = some i
 g3 : spec_l5Next.f k ns P i = some nx
 g4 : Impl.CutTo ns j c1 c2
 g5 : spec_l4At.f k c1 C.f2 = some p2
 g6 : Impl.PutTo c1 p2 (if P = p ∧ i < x then wrap64 (x - 1) else x) c2 out
section
variable {ns : List Node} {P i j e : Nat}
theorem off_lt {n p : Nat} (hje : j ≤ e) (he : e ≤ n) (hp : p < n) (ho : p < j ∨ e ≤ p) : off j e p < n - (e - j) := by
 unfold off
 split <;> omega
theorem kid_off {ks : List Nat} (hK : Kid ks P i j) (hje : j < e) (hel : e ≤ ks.length) {p : Nat} (hp : p < j ∨ e ≤ p) : (cutK ks P j e).getD (off j e p) 0 = if p = P then ks.getD P 0 - 1 else ks.getD p 0 := by
 have hPj := hK.lt
 rcases hp with h | h
 ·have ho : off j e p = p := by unfold off; rw [if_pos (by omega)]
  rw [ho]
  by_cases hP : p = P
  ·subst hP
   rw [if_pos rfl, cutK_P (by omega) h]
  ·rw [if_neg hP, List.getD_eq_getElem?_getD, cutK_lo (by omega) h hP, ← List.getD_eq_getElem?_getD]
 ·have ho : off j e p = p - (e - j) := by unfold off; rw [if_neg (by omega)]
  rw [ho, if_neg (by omega), List.getD_eq_getElem?_getD, cutK_hi (by omega) (by omega) h, ← List.getD_eq_getElem?_getD]
theorem spot_cut (g : Good ns) (hnd : (ns.map (·.f0)).Nodup) (C : Chg) (hK : Kid (kids ns) P i j) (he : E (kids ns) j 1 = some e) (hj : j < ns.length) (hid : place ns C.f1 = some j) {p x : Nat} (hp : p < ns.length) (ho : p < j ∨ e ≤ p)
  (hx : (C.f3 = -1 ∧ x = (kids ns).getD p 0) ∨ (C.f3 ≠ -1 ∧ C.f3 ≠ C.f1 ∧ ∃ b, place ns C.f3 = some b ∧ Kid (kids ns) p x b)) :
  E (kids (cutN ns P j e)) (off j e p + 1) (if p = P ∧ i < x then x - 1 else x) = some (goalPos (cutN ns P j e) C (off j e p)) := by
 have hje := (E_bounds he).2 (by omega)
 have hel : e ≤ ns.length := by have := hje.2; simpa [kids] using this
 rcases hx with ⟨h3, rfl⟩ | ⟨h3, h31, b, hb, hKb⟩
 ·obtain ⟨s, hs, hsl⟩ := g.own hp
  have h1 := E_end_cut hK he hs ho
  have hk := kid_off hK hje.1 hje.2 ho
  rw [← kids_cutN] at h1 hk
  have h2 := (E_one h1).2
  rw [hk] at h2
  unfold goalPos endOf
  rw [if_pos h3, h1, Option.getD_some, ← h2]
  congr 1
  have := hK.2.1
  by_cases c : p = P
  ·subst c; rw [if_pos ⟨rfl, this⟩, if_pos rfl]
  ·rw [if_neg (fun h => c h.1), if_neg c]
 ·have hbj : b ≠ j := by
   intro h
   subst h
   have h1 := (place_some hb).2
   have h2 := (place_some hid).2
   exact h31 (h1.symm.trans h2)
  obtain ⟨h4, h5⟩ := Kid_cut hK he hKb ho hbj
  rw [← kids_cutN] at h5
  unfold goalPos
  rw [if_neg h3, place_cut hnd (by omega) hel hb h4, Option.getD_some]
  exact h5.2.2
theorem mem_modify' {α : Type} {l : List α} {p : Nat} {f : α → α} {a : α} (h : a ∈ l.modify p f) : ∃ b ∈ l, a = b ∨ a = f b := by
 obtain ⟨q, hq, rfl⟩ := List.getElem_of_mem h
 rw [List.getElem_modify]
 rw [List.length_modify] at hq
 refine ⟨l[q], List.getElem_mem hq, ?_⟩
 split
 ·exact .inr rfl
 ·exact .inl rfl
theorem mem_cutN {n : Node} (h : n ∈ cutN ns P j e) : ∃ m ∈ ns, n.f3 = m.f3 ∧ (n.f5 = m.f5 ∨ 0 ≤ n.f5) := by
 unfold cutN at h
 rcases List.mem_append.1 h with h | h
 ·obtain ⟨m, hm, h | h⟩ := mem_modify' (List.mem_of_mem_take h)
  ·exact ⟨m, hm, by rw [h], .inl (by rw [h])⟩
  ·exact ⟨m, hm, by rw [h]; rfl, .inr (by rw [h]; unfold withKids; simp)⟩
 ·exact ⟨n, List.mem_of_mem_drop h, rfl, .inl rfl⟩
theorem cutN_length (hj : j ≤ ns.length) (he : e ≤ ns.length) (hje : j ≤ e) : (cutN ns P j e).length = ns.length - (e - j) := by
 unfold cutN
 simp only [List.length_append, List.length_take, List.length_modify, List.length_drop]
 omega
theorem move_good (g : Good ns) (hnd : (ns.map (·.f0)).Nodup) (C : Chg) (hK : Kid (kids ns) P i j) (he : E (kids ns) j 1 = some e) (hj : j < ns.length) (hid : place ns C.f1 = some j) {p x : Nat} (hpp : place ns C.f2 = some p) (ho : p < j ∨ e ≤ p) (hh : (ns.getD p z95).f1 = 1 ∨ (ns.getD p z95).f1 = 2) (h31 : C.f3 ≠ C.f1)
  (hx : (C.f3 = -1 ∧ x = (kids ns).getD p 0) ∨ (C.f3 ≠ -1 ∧ C.f3 ≠ C.f1 ∧ ∃ b, place ns C.f3 = some b ∧ Kid (kids ns) p x b)) :
  ∃ k, MoveOk ns C j p x k P i (ns.getD P z95).f0 (nextN ns P e) (off j e p) (cutN ns P j e) ((ns.take e).drop j) (putN (cutN ns P j e) (off j e p) (goalPos (cutN ns P j e) C (off j e p)) ((ns.take e).drop j)) := by
 have hp := (place_some hpp).1
 have gb := g.b
 have hje := (E_bounds he).2 (by omega)
 have hel : e ≤ ns.length := by have := hje.2; simpa [kids] using this
 have hs := spot_cut g hnd C hK he hj hid hp ho hx
 have hol := cutN_length (P := P) (by omega : j ≤ ns.length) hel (by omega)
 have hop : off j e p < (cutN ns P j e).length := by rw [hol]; exact off_lt (by omega) hel hp ho
 have hxx : (if p = P ∧ i < x then x - 1 else x) ≤ 4000 := by have := kid_le hs; omega
 have hgp : goalPos (cutN ns P j e) C (off j e p) ≤ (cutN ns P j e).length := by
  have h1 := E_bounds hs
  rcases Nat.eq_zero_or_pos (if p = P ∧ i < x then x - 1 else x) with h | h
  ·rw [h, E_zero] at hs
   injection hs with hs
   omega
  ·have := (h1.2 h).2
   simpa [kids] using this
 have hkk : kid (cutN ns P j e)[off j e p] ≤ 1000000 := by
  obtain ⟨s, hs2, _⟩ := g.own hp
  have h1 := E_end_cut hK he hs2 ho
  rw [← kids_cutN] at h1
  have h2 := kid_le (E_one h1).2
  rw [kids_at hop] at h2
  omega
 have hput := put_f (what := (ns.take e).drop j) (by omega) (fun n hn => by obtain ⟨m, hm, _, h | h⟩ := mem_cutN hn; rw [h]; exact g.k m hm; exact h) (fun n hn => by obtain ⟨m, hm, h, _⟩ := mem_cutN hn; rw [h]; exact g.a m hm) (by simp only [List.length_drop, List.length_take]; omega) (fun n hn => g.a n (List.mem_of_mem_take (List.mem_of_mem_drop hn))) hop (by omega) hs hgp hkk
 obtain ⟨K3, h3⟩ := number_good g hK
 obtain ⟨K4, h4⟩ := next_good g hK he
 have hat := at_f (cutN ns P j e) C.f2 (by omega)
 rw [place_cut hnd (by omega) hel hpp ho] at hat
 obtain ⟨K6, h6⟩ := hat
 have hPj := hK.lt
 refine ⟨K3 + K4 + K6, by have := hK.lt; omega, rfl, g.parents hK hj, h3 _ (by omega), h4 _ (by omega), cut_f g hK he hj, h6 _ (by omega), ?_⟩
 have g7 := hput
 by_cases c : p = P ∧ i < x
 ·rw [if_pos ⟨c.1.symm, by omega⟩, w64 (by omega) (by rw [if_pos c] at hxx; omega), show ((x : Int) - 1) = ((x - 1 : Nat) : Int) from by omega]
  rw [if_pos c] at g7
  exact g7
 ·rw [if_neg (fun h => c ⟨h.1.symm, by omega⟩)]
  rw [if_neg c] at g7
  exact g7
end
end Go.Proofs.YthjgohbkpjhkeaaGreatDoor.FireSpec
set_option maxHeartbeats 4000000
set_option maxRecDepth 100000
namespace Go.Proofs.YthjgohbkpjhkeaaGreatDoor.Impl
open Go.RowKit Go.Proofs.YthjgohbkpjhkeaaGreatDoorW.PrintWords Go.Proofs.YthjgohbkpjhkeaaGreatDoorW.PrintLast Go.Proofs.YthjgohbkpjhkeaaGreatDoorW.PrintMore Go.Proofs.YthjgohbkpjhkeaaGreatDoor.PFnExactDo Go.Proofs.YthjgohbkpjhkeaaGreatDoor.MapLib Go.Proofs.YthjgohbkpjhkeaaGreatDoor.FireSpec Go.Proofs.YthjgohbkpjhkeaaGreatDoor.Tr
def DidEnd (w : World) (out : List S95) (R : Chg) (code : Int) (e : Ending) (w' : World) : Prop :=
 ∃ A c A' c', e = .returned (.tuple #[.slice A out.length c, chv R A' c', .int .i64 code]) ∧ Kd.F k95 w' (fun k => w.heap.size ≤ k) A out.length out ∧ out.length ≤ c ∧ Kd.F k95 w' (fun k => w.heap.size ≤ k) A' R.f7.length R.f7 ∧ R.f7.length ≤ c' ∧ Below w.heap.size w w'
structure DB (w W : World) (A0 : Option Addr) (n c0 : Nat) (C : Chg) (A : Option Addr) (c : Nat) : Prop where
 s : SB w W A0 n c0 C A c
 z : W.heap[w.heap.size + 2]? = some (mbox8 zC none 0 33)
 n : W.heap[w.heap.size + 3]? = some (.cells #[] 95)
theorem DB.four {w : World} {A0 : Option Addr} {n c0 : Nat} {C : Chg} {A : Option Addr} {c : Nat} : DB w ((((w.alloc (.cells #[.slice A0 n c0] 31)).alloc (mbox8 C A c 33)).alloc (mbox8 zC none 0 33)).alloc (.cells #[] 95)) A0 n c0 C A c := by
 have h := (SB.two (w := w) (A0 := A0) (n := n) (c0 := c0) (C := C) (A := A) (c := c))
 have hs : ((w.alloc (.cells #[.slice A0 n c0] 31)).alloc (mbox8 C A c 33)).heap.size = w.heap.size + 2 := by simp
 generalize ((w.alloc (.cells #[.slice A0 n c0] 31)).alloc (mbox8 C A c 33)) = w2 at h hs ⊢
 have hb1 := (Below.refl w2.heap.size w2).alloc (Nat.le_refl _) (mbox8 zC none 0 33)
 have hs2 : (w2.alloc (mbox8 zC none 0 33)).heap.size = w.heap.size + 3 := by simp [hs]
 have hz := blk_newest w2 (mbox8 zC none 0 33)
 rw [hs] at hz
 generalize hw3 : w2.alloc (mbox8 zC none 0 33) = w3 at hb1 hs2 hz ⊢
 have hb2 := (Below.refl w3.heap.size w3).alloc (Nat.le_refl _) (.cells #[] 95)
 have hn := blk_newest w3 (.cells #[] 95)
 rw [hs2] at hn
 exact ⟨(h.below hb1).below hb2, blk_below hz hb2, hn⟩
section
variable {w W W' : World} {A0 : Option Addr} {n c0 : Nat} {C : Chg} {A : Option Addr} {c : Nat}
theorem DB.below (h : DB w W A0 n c0 C A c) (hb : Below W.heap.size W W') : DB w W' A0 n c0 C A c := ⟨h.s.below hb, blk_below h.z hb, blk_below h.n hb⟩
theorem DB.zc (h : DB w W A0 n c0 C A c) : W.cell? ⟨w.heap.size + 1 + 1, 0, none⟩ = some (.int .i64 0) ∧ W.cell? ⟨w.heap.size + 1 + 1, 1, none⟩ = some (.int .i64 0) ∧ W.cell? ⟨w.heap.size + 1 + 1, 2, none⟩ = some (.int .i64 0) ∧ W.cell? ⟨w.heap.size + 1 + 1, 3, none⟩ = some (.int .i64 0) ∧ W.cell? ⟨w.heap.size + 1 + 1, 4, none⟩ = some (.string ⟨#[]⟩) ∧ W.cell? ⟨w.heap.size + 1 + 1, 5, none⟩ = some (.string ⟨#[]⟩) ∧ W.cell? ⟨w.heap.size + 1 + 1, 6, none⟩ = some (.int .i64 0) ∧ W.cell? ⟨w.heap.size + 1 + 1, 7, none⟩ = some (.slice none 0 0) := cells8t (C := zC) h.z
theorem DB.zf (h : DB w W A0 n c0 C A c) : W.frozen? ⟨w.heap.size + 1 + 1, 0, none⟩ = false ∧ W.frozen? ⟨w.heap.size + 1 + 1, 1, none⟩ = false ∧ W.frozen? ⟨w.heap.size + 1 + 1, 2, none⟩ = false ∧ W.frozen? ⟨w.heap.size + 1 + 1, 3, none⟩ = false ∧ W.frozen? ⟨w.heap.size + 1 + 1, 4, none⟩ = false ∧ W.frozen? ⟨w.heap.size + 1 + 1, 5, none⟩ = false ∧ W.frozen? ⟨w.heap.size + 1 + 1, 6, none⟩ = false ∧ W.frozen? ⟨w.heap.size + 1 + 1, 7, none⟩ = false :=
 ⟨blk_frozen h.z 0, blk_frozen h.z 1, blk_frozen h.z 2, blk_frozen h.z 3, blk_frozen h.z 4, blk_frozen h.z 5, blk_frozen h.z 6, blk_frozen h.z 7⟩
end
theorem DB.set {w W W' : World} {A0 : Option Addr} {n c0 : Nat} {C : Chg} {A : Option Addr} {c : Nat} {R : Chg} {Ar : Option Addr} {cr : Nat} (h : DB w W A0 n c0 C A c) (hw : W' = ((((((((W.setCell ⟨w.heap.size + 1 + 1, 0, none⟩ (.int .i64 R.f0)).setCell ⟨w.heap.size + 1 + 1, 1, none⟩ (.int .i64 R.f1)).setCell ⟨w.heap.size + 1 + 1, 2, none⟩ (.int .i64 R.f2)).setCell ⟨w.heap.size + 1 + 1, 3, none⟩ (.int .i64 R.f3)).setCell ⟨w.heap.size + 1 + 1, 4, none⟩ (.string R.f4)).setCell ⟨w.heap.size + 1 + 1, 5, none⟩ (.string R.f5)).setCell ⟨w.heap.size + 1 + 1, 6, none⟩ (.int .i64 R.f6)).setCell ⟨w.heap.size + 1 + 1, 7, none⟩ (.slice Ar R.f7.length cr))) :
  W'.heap[w.heap.size + 2]? = some (mbox8 R Ar cr 33) ∧ (∀ k, k ≠ w.heap.size + 2 → W'.heap[k]? = W.heap[k]?) ∧ W'.heap.size = W.heap.size ∧ Below w.heap.size w W' := by
 obtain ⟨h1, h2, h3, h4⟩ := set8 (C := R) (A := Ar) (c := cr) h.z hw
 exact ⟨h1, h2, h3, h4 _ _ h.s.b (by omega)⟩
theorem none_reads {d : Kd S95} {ok : Nat → Prop} (W : World) (A : Option Addr) : Kd.F d W ok A 0 [] := fun _ _ => ⟨rfl, by simp, fun h => absurd h (Nat.lt_irrefl 0)⟩
theorem did_noId (w : World) (ns : List S95) (C : Chg) (A0 : Option Addr) (c0 : Nat) (A : Option Addr) (c : Nat) (hr : Kd.C k95 w A0 ns.length ns) (hc : ns.length ≤ c0) (h0 : C.f0 ≠ 1) (k1 : Nat) (h1 : spec_l4At.f k1 ns C.f1 = some (-1)) :
  Calls Tryz.prog 41 #[.agg #[.slice A0 ns.length c0], chv C A c] w (DidEnd w [] zC 2) := by
 have HR := am hr
 have HC := am hc
 have HK := am h1
 have hd : (C.f0 != 1) = true := by simpa using h0
 clear hr hc h1 h0
 go_enter Tryz.func41, Tryz.ntmps41
 go_wp2_with fail
 have HS0 := am (DB.four (w := w) (A0 := A0) (n := ns.length) (c0 := c0) (C := C) (A := A) (c := c))
 generalize World.alloc _ _ = w1 at HS0 ⊢
 refine (spec_l4At.calls k1 A0 c0 ns C.f1 _ w1 (Kd.C_below HR.out HS0.out.s.b) HC.out HK.out).mono ?_
 rintro e w2 ⟨rfl, hb2⟩
 have HS2 := am (HS0.out.below hb2)
 clear hb2 HS0
 obtain ⟨xt, x0, x1, x2, x3, x4, x5, x6, x7⟩ := HS2.out.s.cells
 obtain ⟨z0, z1, z2, z3, z4, z5, z6, z7⟩ := HS2.out.zc
 obtain ⟨f0, f1, f2, f3, f4, f5, f6, f7⟩ := HS2.out.zf
 go_wp2
 clear z0 z1 z2 z3 z4 z5 z6 z7 xt x0 x1 x2 x3 x4 x5 x6 x7 f0 f1 f2 f3 f4 f5 f6 f7
 generalize hw3 : World.setCell _ _ _ = w3
 obtain ⟨h1, h2, h3, h4⟩ := HS2.out.set (R := zC) (Ar := none) (cr := 0) hw3.symm
 obtain ⟨y0, y1, y2, y3, y4, y5, y6, y7⟩ := cells8t h1
 have hut := Tryz.underlying33
 have HZ := am h4
 clear h1 h2 h3 h4 hw3
 refine bodyPost_ret (v := .tuple #[.slice (some ⟨w.heap.size + 1 + 1 + 1, 0, none⟩) 0 0, chv zC none 0, .int .i64 2]) (by simp [results, Tryz.results41, go_sem, y0, y1, y2, y3, y4, y5, y6, y7, hut]) rfl (show DidEnd _ _ _ _ _ _ from ?_)
 exact ⟨_, 0, none, 0, rfl, none_reads _ _, Nat.le_refl _, none_reads _ _, Nat.le_refl _, HZ.out⟩
end Go.Proofs.YthjgohbkpjhkeaaGreatDoor.Impl
set_option maxHeartbeats 4000000
set_option maxRecDepth 100000
namespace Go.Proofs.YthjgohbkpjhkeaaGreatDoor.Impl
open Go.RowKit Go.Proofs.YthjgohbkpjhkeaaGreatDoorW.PrintWords Go.Proofs.YthjgohbkpjhkeaaGreatDoorW.PrintLast Go.Proofs.YthjgohbkpjhkeaaGreatDoorW.PrintMore Go.Proofs.YthjgohbkpjhkeaaGreatDoor.PFnExactDo Go.Proofs.YthjgohbkpjhkeaaGreatDoor.MapLib Go.Proofs.YthjgohbkpjhkeaaGreatDoor.FireSpec Go.Proofs.YthjgohbkpjhkeaaGreatDoor.Tr
theorem did_aim1 (w : World) (ns : List S95) (C : Chg) (A0 : Option Addr) (c0 : Nat) (A : Option Addr) (c : Nat) (hr : Kd.C k95 w A0 ns.length ns) (hc : ns.length ≤ c0) (h0 : C.f0 = 1) (hAim : ∀ W, Kd.C k95 W A0 ns.length ns → Calls Tryz.prog 68 #[.agg #[.slice A0 ns.length c0], chv C A c] W (aimEnd W 0 0 2)) :
  Calls Tryz.prog 41 #[.agg #[.slice A0 ns.length c0], chv C A c] w (DidEnd w [] zC 2) := by
 have HR := am hr
 have HC := am hc
 clear hr hc
 have HAim := am hAim
 clear hAim
 have d1 : (C.f0 != 1) = false := by rw [h0]; rfl
 have d2 : (C.f0 == 1) = true := by rw [h0]; rfl
 have d3 : (C.f0 == 3) = false := by rw [h0]; rfl
 clear h0
 go_enter Tryz.func41, Tryz.ntmps41
 go_wp2_with fail
 have HS0 := am (DB.four (w := w) (A0 := A0) (n := ns.length) (c0 := c0) (C := C) (A := A) (c := c))
 generalize World.alloc _ _ = w1 at HS0 ⊢
 refine (HAim.out w1 (Kd.C_below HR.out HS0.out.s.b)).mono ?_
 rintro e w2 ⟨rfl, hb3⟩
 have HS2 := am (HS0.out.below hb3)
 clear hb3 HS0
 obtain ⟨xt, x0, x1, x2, x3, x4, x5, x6, x7⟩ := HS2.out.s.cells
 obtain ⟨z0, z1, z2, z3, z4, z5, z6, z7⟩ := HS2.out.zc
 obtain ⟨f0, f1, f2, f3, f4, f5, f6, f7⟩ := HS2.out.zf
 go_wp2
 clear z0 z1 z2 z3 z4 z5 z6 z7 xt x0 x1 x2 x3 x4 x5 x6 x7 f0 f1 f2 f3 f4 f5 f6 f7
 generalize hw9 : World.setCell _ _ _ = w9
 obtain ⟨h1, h2, h3, h4⟩ := HS2.out.set (R := zC) (Ar := none) (cr := 0) hw9.symm
 obtain ⟨y0, y1, y2, y3, y4, y5, y6, y7⟩ := cells8t h1
 have hut := Tryz.underlying33
 have HZ := am h4
 clear h1 h2 h3 h4 hw9
 refine bodyPost_ret (v := .tuple #[.slice (some ⟨w.heap.size + 1 + 1 + 1, 0, none⟩) 0 0, chv zC none 0, .int .i64 2]) (by simp [results, Tryz.results41, go_sem, y0, y1, y2, y3, y4, y5, y6, y7, hut]) rfl (show DidEnd _ _ _ _ _ _ from ?_)
 exact ⟨_, 0, none, 0, rfl, none_reads _ _, Nat.le_refl _, none_reads _ _, Nat.le_refl _, HZ.out⟩
theorem did_aim3 (w : World) (ns : List S95) (C : Chg) (A0 : Option Addr) (c0 : Nat) (A : Option Addr) (c : Nat) (hr : Kd.C k95 w A0 ns.length ns) (hc : ns.length ≤ c0) (h0 : C.f0 = 3) (k1 j : Nat) (h1 : spec_l4At.f k1 ns C.f1 = some (j : Int))(hAim : ∀ W, Kd.C k95 W A0 ns.length ns → Calls Tryz.prog 68 #[.agg #[.slice A0 ns.length c0], chv C A c] W (aimEnd W 0 0 2)) :
  Calls Tryz.prog 41 #[.agg #[.slice A0 ns.length c0], chv C A c] w (DidEnd w [] zC 2) := by
 have HR := am hr
 have HC := am hc
 clear hr hc
 have HAim := am hAim
 clear hAim
 have HK := am h1
 clear h1
 have d1 : (C.f0 != 1) = true := by rw [h0]; rfl
 have d2 : (C.f0 == 1) = false := by rw [h0]; rfl
 have d3 : (C.f0 == 3) = true := by rw [h0]; rfl
 clear h0
 go_enter Tryz.func41, Tryz.ntmps41
 go_wp2_with fail
 have HS0 := am (DB.four (w := w) (A0 := A0) (n := ns.length) (c0 := c0) (C := C) (A := A) (c := c))
 generalize World.alloc _ _ = w1 at HS0 ⊢
 refine (spec_l4At.calls k1 A0 c0 ns C.f1 _ w1 (Kd.C_below HR.out HS0.out.s.b) HC.out HK.out).mono ?_
 rintro e w2 ⟨rfl, hb2⟩
 have HS2 := am (HS0.out.below hb2)
 clear hb2 HS0
 obtain ⟨xt, x0, x1, x2, x3, x4, x5, x6, x7⟩ := HS2.out.s.cells
 obtain ⟨z0, z1, z2, z3, z4, z5, z6, z7⟩ := HS2.out.zc
 obtain ⟨f0, f1, f2, f3, f4, f5, f6, f7⟩ := HS2.out.zf
 have e1 : decide ((j : Int) < 0) = false := decide_eq_false (by omega)
 go_wp2_with fail
 refine (HAim.out w2 (Kd.C_below HR.out HS2.out.s.b)).mono ?_
 rintro e w3 ⟨rfl, hb3⟩
 have HS3 := am (HS2.out.below hb3)
 clear hb3 HS2
 clear xt x0 x1 x2 x3 x4 x5 x6 x7 z0 z1 z2 z3 z4 z5 z6 z7 f0 f1 f2 f3 f4 f5 f6 f7
 obtain ⟨xt, x0, x1, x2, x3, x4, x5, x6, x7⟩ := HS3.out.s.cells
 obtain ⟨z0, z1, z2, z3, z4, z5, z6, z7⟩ := HS3.out.zc
 obtain ⟨f0, f1, f2, f3, f4, f5, f6, f7⟩ := HS3.out.zf
 go_wp2
 clear z0 z1 z2 z3 z4 z5 z6 z7 xt x0 x1 x2 x3 x4 x5 x6 x7 f0 f1 f2 f3 f4 f5 f6 f7
 generalize hw9 : World.setCell _ _ _ = w9
 obtain ⟨h1, h2, h3, h4⟩ := HS3.out.set (R := zC) (Ar := none) (cr := 0) hw9.symm
 obtain ⟨y0, y1, y2, y3, y4, y5, y6, y7⟩ := cells8t h1
 have hut := Tryz.underlying33
 have HZ := am h4
 clear h1 h2 h3 h4 hw9
 refine bodyPost_ret (v := .tuple #[.slice (some ⟨w.heap.size + 1 + 1 + 1, 0, none⟩) 0 0, chv zC none 0, .int .i64 2]) (by simp [results, Tryz.results41, go_sem, y0, y1, y2, y3, y4, y5, y6, y7, hut]) rfl (show DidEnd _ _ _ _ _ _ from ?_)
 exact ⟨_, 0, none, 0, rfl, none_reads _ _, Nat.le_refl _, none_reads _ _, Nat.le_refl _, HZ.out⟩
theorem did_low (w : World) (ns : List S95) (C : Chg) (A0 : Option Addr) (c0 : Nat) (A : Option Addr) (c : Nat) (hr : Kd.C k95 w A0 ns.length ns) (hc : ns.length ≤ c0) (h0 : C.f0 < 1) (k1 j : Nat) (h1 : spec_l4At.f k1 ns C.f1 = some (j : Int)) :
  Calls Tryz.prog 41 #[.agg #[.slice A0 ns.length c0], chv C A c] w (DidEnd w [] zC 3) := by
 have HR := am hr
 have HC := am hc
 clear hr hc
 have HK := am h1
 clear h1
 have d1 : (C.f0 != 1) = true := by simp only [bne_iff_ne, ne_eq]; omega
 have d2 : (C.f0 == 1) = false := by simp only [beq_eq_false_iff_ne, ne_eq]; omega
 have d3 : (C.f0 == 3) = false := by simp only [beq_eq_false_iff_ne, ne_eq]; omega
 have d4 : decide (C.f0 < 1) = true := decide_eq_true h0
 clear h0
 go_enter Tryz.func41, Tryz.ntmps41
 go_wp2_with fail
 have HS0 := am (DB.four (w := w) (A0 := A0) (n := ns.length) (c0 := c0) (C := C) (A := A) (c := c))
 generalize World.alloc _ _ = w1 at HS0 ⊢
 refine (spec_l4At.calls k1 A0 c0 ns C.f1 _ w1 (Kd.C_below HR.out HS0.out.s.b) HC.out HK.out).mono ?_
 rintro e w2 ⟨rfl, hb2⟩
 have HS2 := am (HS0.out.below hb2)
 clear hb2 HS0
 obtain ⟨xt, x0, x1, x2, x3, x4, x5, x6, x7⟩ := HS2.out.s.cells
 obtain ⟨z0, z1, z2, z3, z4, z5, z6, z7⟩ := HS2.out.zc
 obtain ⟨f0, f1, f2, f3, f4, f5, f6, f7⟩ := HS2.out.zf
 have e1 : decide ((j : Int) < 0) = false := decide_eq_false (by omega)
 go_wp2
 clear z0 z1 z2 z3 z4 z5 z6 z7 xt x0 x1 x2 x3 x4 x5 x6 x7 f0 f1 f2 f3 f4 f5 f6 f7
 generalize hw9 : World.setCell _ _ _ = w9
 obtain ⟨h1, h2, h3, h4⟩ := HS2.out.set (R := zC) (Ar := none) (cr := 0) hw9.symm
 obtain ⟨y0, y1, y2, y3, y4, y5, y6, y7⟩ := cells8t h1
 have hut := Tryz.underlying33
 have HZ := am h4
 clear h1 h2 h3 h4 hw9
 refine bodyPost_ret (v := .tuple #[.slice (some ⟨w.heap.size + 1 + 1 + 1, 0, none⟩) 0 0, chv zC none 0, .int .i64 3]) (by simp [results, Tryz.results41, go_sem, y0, y1, y2, y3, y4, y5, y6, y7, hut]) rfl (show DidEnd _ _ _ _ _ _ from ?_)
 exact ⟨_, 0, none, 0, rfl, none_reads _ _, Nat.le_refl _, none_reads _ _, Nat.le_refl _, HZ.out⟩
theorem did_high (w : World) (ns : List S95) (C : Chg) (A0 : Option Addr) (c0 : Nat) (A : Option Addr) (c : Nat) (hr : Kd.C k95 w A0 ns.length ns) (hc : ns.length ≤ c0) (h0 : 6 < C.f0) (k1 j : Nat) (h1 : spec_l4At.f k1 ns C.f1 = some (j : Int)) :
  Calls Tryz.prog 41 #[.agg #[.slice A0 ns.length c0], chv C A c] w (DidEnd w [] zC 3) := by
 have HR := am hr
 have HC := am hc
 clear hr hc
 have HK := am h1
 clear h1
 have d1 : (C.f0 != 1) = true := by simp only [bne_iff_ne, ne_eq]; omega
 have d2 : (C.f0 == 1) = false := by simp only [beq_eq_false_iff_ne, ne_eq]; omega
 have d3 : (C.f0 == 3) = false := by simp only [beq_eq_false_iff_ne, ne_eq]; omega
 have d4 : decide (C.f0 < 1) = false := decide_eq_false (by omega)
 have d5 : decide (C.f0 > 6) = true := decide_eq_true h0
 clear h0
 go_enter Tryz.func41, Tryz.ntmps41
 go_wp2_with fail
 have HS0 := am (DB.four (w := w) (A0 := A0) (n := ns.length) (c0 := c0) (C := C) (A := A) (c := c))
 generalize World.alloc _ _ = w1 at HS0 ⊢
 refine (spec_l4At.calls k1 A0 c0 ns C.f1 _ w1 (Kd.C_below HR.out HS0.out.s.b) HC.out HK.out).mono ?_
 rintro e w2 ⟨rfl, hb2⟩
 have HS2 := am (HS0.out.below hb2)
 clear hb2 HS0
 obtain ⟨xt, x0, x1, x2, x3, x4, x5, x6, x7⟩ := HS2.out.s.cells
 obtain ⟨z0, z1, z2, z3, z4, z5, z6, z7⟩ := HS2.out.zc
 obtain ⟨f0, f1, f2, f3, f4, f5, f6, f7⟩ := HS2.out.zf
 have e1 : decide ((j : Int) < 0) = false := decide_eq_false (by omega)
 go_wp2
 clear z0 z1 z2 z3 z4 z5 z6 z7 xt x0 x1 x2 x3 x4 x5 x6 x7 f0 f1 f2 f3 f4 f5 f6 f7
 generalize hw9 : World.setCell _ _ _ = w9
 obtain ⟨h1, h2, h3, h4⟩ := HS2.out.set (R := zC) (Ar := none) (cr := 0) hw9.symm
 obtain ⟨y0, y1, y2, y3, y4, y5, y6, y7⟩ := cells8t h1
 have hut := Tryz.underlying33
 have HZ := am h4
 clear h1 h2 h3 h4 hw9
 refine bodyPost_ret (v := .tuple #[.slice (some ⟨w.heap.size + 1 + 1 + 1, 0, none⟩) 0 0, chv zC none 0, .int .i64 3]) (by simp [results, Tryz.results41, go_sem, y0, y1, y2, y3, y4, y5, y6, y7, hut]) rfl (show DidEnd _ _ _ _ _ _ from ?_)
 exact ⟨_, 0, none, 0, rfl, none_reads _ _, Nat.le_refl _, none_reads _ _, Nat.le_refl _, HZ.out⟩
theorem did_root (w : World) (ns : List S95) (C : Chg) (A0 : Option Addr) (c0 : Nat) (A : Option Addr) (c : Nat) (hr : Kd.C k95 w A0 ns.length ns) (hc : ns.length ≤ c0) (h0 : 1 < C.f0 ∧ C.f0 ≤ 6 ∧ C.f0 ≠ 3) (k1 : Nat) (h1 : spec_l4At.f k1 ns C.f1 = some 0) :
  Calls Tryz.prog 41 #[.agg #[.slice A0 ns.length c0], chv C A c] w (DidEnd w [] zC 3) := by
 have HR := am hr
 have HC := am hc
 clear hr hc
 have HK := am h1
 clear h1
 have d1 : (C.f0 != 1) = true := by simp only [bne_iff_ne, ne_eq]; omega
 have d2 : (C.f0 == 1) = false := by simp only [beq_eq_false_iff_ne, ne_eq]; omega
 have d3 : (C.f0 == 3) = false := by simp only [beq_eq_false_iff_ne, ne_eq]; omega
 have d4 : decide (C.f0 < 1) = false := decide_eq_false (by omega)
 have d5 : decide (C.f0 > 6) = false := decide_eq_false (by omega)
 clear h0
 go_enter Tryz.func41, Tryz.ntmps41
 go_wp2_with fail
 have HS0 := am (DB.four (w := w) (A0 := A0) (n := ns.length) (c0 := c0) (C := C) (A := A) (c := c))
 generalize World.alloc _ _ = w1 at HS0 ⊢
 refine (spec_l4At.calls k1 A0 c0 ns C.f1 _ w1 (Kd.C_below HR.out HS0.out.s.b) HC.out HK.out).mono ?_
 rintro e w2 ⟨rfl, hb2⟩
 have HS2 := am (HS0.out.below hb2)
 clear hb2 HS0
 obtain ⟨xt, x0, x1, x2, x3, x4, x5, x6, x7⟩ := HS2.out.s.cells
 obtain ⟨z0, z1, z2, z3, z4, z5, z6, z7⟩ := HS2.out.zc
 obtain ⟨f0, f1, f2, f3, f4, f5, f6, f7⟩ := HS2.out.zf
 go_wp2
 clear z0 z1 z2 z3 z4 z5 z6 z7 xt x0 x1 x2 x3 x4 x5 x6 x7 f0 f1 f2 f3 f4 f5 f6 f7
 generalize hw9 : World.setCell _ _ _ = w9
 obtain ⟨h1, h2, h3, h4⟩ := HS2.out.set (R := zC) (Ar := none) (cr := 0) hw9.symm
 obtain ⟨y0, y1, y2, y3, y4, y5, y6, y7⟩ := cells8t h1
 have hut := Tryz.underlying33
 have HZ := am h4
 clear h1 h2 h3 h4 hw9
 refine bodyPost_ret (v := .tuple #[.slice (some ⟨w.heap.size + 1 + 1 + 1, 0, none⟩) 0 0, chv zC none 0, .int .i64 3]) (by simp [results, Tryz.results41, go_sem, y0, y1, y2, y3, y4, y5, y6, y7, hut]) rfl (show DidEnd _ _ _ _ _ _ from ?_)
 exact ⟨_, 0, none, 0, rfl, none_reads _ _, Nat.le_refl _, none_reads _ _, Nat.le_refl _, HZ.out⟩
theorem did_root3 (w : World) (ns : List S95) (C : Chg) (A0 : Option Addr) (c0 : Nat) (A : Option Addr) (c : Nat) (hr : Kd.C k95 w A0 ns.length ns) (hc : ns.length ≤ c0) (h0 : C.f0 = 3) (k1 : Nat) (h1 : spec_l4At.f k1 ns C.f1 = some 0) (p x : Int) (hAim : ∀ W, Kd.C k95 W A0 ns.length ns → Calls Tryz.prog 68 #[.agg #[.slice A0 ns.length c0], chv C A c] W (aimEnd W p x 0)) :
  Calls Tryz.prog 41 #[.agg #[.slice A0 ns.length c0], chv C A c] w (DidEnd w [] zC 3) := by
 have HR := am hr
 have HC := am hc
 clear hr hc
 have HAim := am hAim
 clear hAim
 have HK := am h1
 clear h1
 have d4 : decide (C.f0 < 1) = false := decide_eq_false (by omega)
 have d5 : decide (C.f0 > 6) = false := decide_eq_false (by omega)
 have d1 : (C.f0 != 1) = true := by rw [h0]; rfl
 have d2 : (C.f0 == 1) = false := by rw [h0]; rfl
 have d3 : (C.f0 == 3) = true := by rw [h0]; rfl
 clear h0
 go_enter Tryz.func41, Tryz.ntmps41
 go_wp2_with fail
 have HS0 := am (DB.four (w := w) (A0 := A0) (n := ns.length) (c0 := c0) (C := C) (A := A) (c := c))
 generalize World.alloc _ _ = w1 at HS0 ⊢
 refine (spec_l4At.calls k1 A0 c0 ns C.f1 _ w1 (Kd.C_below HR.out HS0.out.s.b) HC.out HK.out).mono ?_
 rintro e w2 ⟨rfl, hb2⟩
 have HS2 := am (HS0.out.below hb2)
 clear hb2 HS0
 obtain ⟨xt, x0, x1, x2, x3, x4, x5, x6, x7⟩ := HS2.out.s.cells
 obtain ⟨z0, z1, z2, z3, z4, z5, z6, z7⟩ := HS2.out.zc
 obtain ⟨f0, f1, f2, f3, f4, f5, f6, f7⟩ := HS2.out.zf
 go_wp2_with fail
 refine (HAim.out w2 (Kd.C_below HR.out HS2.out.s.b)).mono ?_
 rintro e w3 ⟨rfl, hb3⟩
 have HS3 := am (HS2.out.below hb3)
 clear hb3 HS2
 clear xt x0 x1 x2 x3 x4 x5 x6 x7 z0 z1 z2 z3 z4 z5 z6 z7 f0 f1 f2 f3 f4 f5 f6 f7
 obtain ⟨xt, x0, x1, x2, x3, x4, x5, x6, x7⟩ := HS3.out.s.cells
 obtain ⟨z0, z1, z2, z3, z4, z5, z6, z7⟩ := HS3.out.zc
 obtain ⟨f0, f1, f2, f3, f4, f5, f6, f7⟩ := HS3.out.zf
 go_wp2
 clear z0 z1 z2 z3 z4 z5 z6 z7 xt x0 x1 x2 x3 x4 x5 x6 x7 f0 f1 f2 f3 f4 f5 f6 f7
 generalize hw9 : World.setCell _ _ _ = w9
 obtain ⟨h1, h2, h3, h4⟩ := HS3.out.set (R := zC) (Ar := none) (cr := 0) hw9.symm
 obtain ⟨y0, y1, y2, y3, y4, y5, y6, y7⟩ := cells8t h1
 have hut := Tryz.underlying33
 have HZ := am h4
 clear h1 h2 h3 h4 hw9
 refine bodyPost_ret (v := .tuple #[.slice (some ⟨w.heap.size + 1 + 1 + 1, 0, none⟩) 0 0, chv zC none 0, .int .i64 3]) (by simp [results, Tryz.results41, go_sem, y0, y1, y2, y3, y4, y5, y6, y7, hut]) rfl (show DidEnd _ _ _ _ _ _ from ?_)
 exact ⟨_, 0, none, 0, rfl, none_reads _ _, Nat.le_refl _, none_reads _ _, Nat.le_refl _, HZ.out⟩
def Aimed (ns : List S95) (C : Chg) (p x : Nat) : Prop := place ns C.f2 = some p ∧ ((C.f3 = -1 ∧ x = (kids ns).getD p 0) ∨ (C.f3 ≠ -1 ∧ ∃ b, place ns C.f3 = some b ∧ Kid (kids ns) p x b))
def AimIs (ns : List S95) (C : Chg) (a b c : Int) : Prop := ∀ W A0 c0 A c', Kd.C k95 W A0 ns.length ns → ns.length ≤ c0 → Calls Tryz.prog 68 #[.agg #[.slice A0 ns.length c0], chv C A c'] W (aimEnd W a b c)
theorem at_is {ns : List S95} (hb : ns.length ≤ 4000) {id : Int} {r : Int} (h : (match place ns id with | some j => (j : Int) | none => -1) = r) : ∃ k, spec_l4At.f k ns id = some r := by
 subst h
 exact (at_f ns id (by omega)).some
theorem aim_all {ns : List S95} (g : FireSpec.Good ns) (C : Chg) :
  (goalCode ns (parOf (kids ns)) C = some 2 ∧ AimIs ns C 0 0 2) ∨ (goalCode ns (parOf (kids ns)) C = none ∧ ∃ p x, Aimed ns C p x ∧ AimIs ns C p x 0) := by
 cases hp : place ns C.f2 with
 | none =>
  obtain ⟨k1, h1⟩ := at_is g.b (id := C.f2) (r := -1) (by rw [hp])
  exact .inl ⟨by unfold goalCode; rw [hp], fun W A0 c0 A c' hr hc => aim_noParent W ns C A0 c0 A c' hr hc k1 h1⟩
 | some p =>
  have hpl := (place_some hp).1
  obtain ⟨k1, h1⟩ := at_is g.b (id := C.f2) (r := (p : Int)) (by rw [hp])
  by_cases hd : C.f3 = -1
  ·refine .inr ⟨by unfold goalCode; rw [hp]; simp only; rw [if_pos hd], p, (kids ns).getD p 0, ⟨hp, .inl ⟨hd, rfl⟩⟩, fun W A0 c0 A c' hr hc => ?_⟩
   have h := aim_end W ns C A0 c0 A c' hr hc k1 p hpl h1 hd
   have e : (ns.getD p z95).f5 = (((kids ns).getD p 0 : Nat) : Int) := by
    rw [kids_at hpl, List.getD_eq_getElem?_getD, List.getElem?_eq_getElem hpl, Option.getD_some]
    have := g.k _ (List.getElem_mem hpl)
    unfold kid
    omega
   rw [e] at h
   exact h
  ·cases hb : place ns C.f3 with
   | none =>
    obtain ⟨k2, h2⟩ := at_is g.b (id := C.f3) (r := -1) (by rw [hb])
    exact .inl ⟨by unfold goalCode; rw [hp]; simp only; rw [if_neg hd, hb], fun W A0 c0 A c' hr hc => aim_noBefore W ns C A0 c0 A c' hr hc k1 p hpl h1 hd k2 h2⟩
   | some b =>
    obtain ⟨k2, h2⟩ := at_is g.b (id := C.f3) (r := (b : Int)) (by rw [hb])
    by_cases hq : parOf (kids ns) b = some p
    ·obtain ⟨i, hK⟩ := parOf_some hq
     obtain ⟨k3, h3⟩ := (number_good g hK).some
     exact .inr ⟨by unfold goalCode; rw [hp]; simp only; rw [if_neg hd, hb]; simp only; rw [if_pos hq], p, i, ⟨hp, .inr ⟨hd, b, hb, hK⟩⟩, fun W A0 c0 A c' hr hc => aim_kid W ns C A0 c0 A c' hr hc k1 p hpl h1 hd k2 b h2 k3 i h3⟩
    ·obtain ⟨e, hE, _⟩ := g.in_ hpl
     obtain ⟨k3, h3⟩ := (number_none (by have := g.b; omega) g.k hpl (fun i h => hq (parOf_of h)) hE).some
     exact .inl ⟨by unfold goalCode; rw [hp]; simp only; rw [if_neg hd, hb]; simp only; rw [if_neg hq], fun W A0 c0 A c' hr hc => aim_noKid W ns C A0 c0 A c' hr hc k1 p hpl h1 hd k2 b h2 k3 h3⟩
section
variable {ns : List S95} {W : World} {base g n cap j : Nat} {ok : Nat → Prop}
theorem store_text (h : Kd.N k95 95 W base ok (.slice (some ⟨g, 0, none⟩) n cap) ns) (hj : j < ns.length) (s : ByteArray) {W' : World} (hw : W' = W.setCell ⟨g, j * 6 + 4, none⟩ (.string s)) :
  Kd.N k95 95 W' base ok (.slice (some ⟨g, 0, none⟩) n cap) (ns.set j (withText (ns.getD j z95) s)) ∧ W.grownBy W' (some g) := by
 obtain ⟨c6, hcl, hM, hcc, hfr⟩ := Kd.N_elem h z95 (j : Int) (by omega) (by have := (Kd.N_reads' h).1; omega)
 obtain ⟨A, c, rfl, ul, ge⟩ := k95_openF hM
 have HP := Kd.N_seg h (j : Int) (by omega) (by have := (Kd.N_reads' h).1; omega) (seg := [.string s]) (j := 4) hcl hcc (show 5 ≤ 6 from by decide) (x' := withText (ns.getD j z95) s) (k95_mkF _ _ (withText (ns.getD j z95) s) ul ge) (fun _ hk => hk)
 subst hw
 exact HP
theorem store_attrs {okp : Nat → Prop} (h : Kd.N k95 95 W base ok (.slice (some ⟨g, 0, none⟩) n cap) ns) (hj : j < ns.length) (xs : List S149) {A : Option Addr} {c : Nat} (hc : xs.length ≤ c) (hF : Kd.F k149 W okp A xs.length xs) (hokp : ∀ k, okp k → ok k ∧ k ≠ g) {W' : World} (hw : W' = W.setCell ⟨g, j * 6 + 3, none⟩ (.slice A xs.length c)) :
  Kd.N k95 95 W' base ok (.slice (some ⟨g, 0, none⟩) n cap) (ns.set j (withAttrs (ns.getD j z95) xs)) ∧ W.grownBy W' (some g) := by
 obtain ⟨c6, hcl, hM, hcc, hfr⟩ := Kd.N_elem h z95 (j : Int) (by omega) (by have := (Kd.N_reads' h).1; omega)
 obtain ⟨A', c', rfl, ul, ge⟩ := k95_openF hM
 have HP := Kd.N_seg h (j : Int) (by omega) (by have := (Kd.N_reads' h).1; omega) (seg := [.slice A xs.length c]) (j := 3) hcl hcc (show 4 ≤ 6 from by decide) (x' := withAttrs (ns.getD j z95) xs) (k95_mkF _ _ (withAttrs (ns.getD j z95) xs) hc (Kd.F_mono hF hokp)) (fun _ hk => hk)
 subst hw
 exact HP
end
end Go.Proofs.YthjgohbkpjhkeaaGreatDoor.Impl
