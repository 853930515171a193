/- Part 29 of the proof: DoSpecT, DoSpecU. -/
import Derived.Test.YthjgohbkpjhkeaaGreatDoorA26
import Derived.Test.YthjgohbkpjhkeaaGreatDoorA27
import Derived.Test.YthjgohbkpjhkeaaGreatDoorA28
import Derived.Test.YthjgohbkpjhkeaaGreatDoorA1
set_option linter.unusedVariables false
set_option linter.unusedSimpArgs false
namespace Go.Proofs.YthjgohbkpjhkeaaGreatDoor.Impl
open Go.RowKit Go.Proofs.YthjgohbkpjhkeaaGreatDoorW.PrintWords Go.Proofs.YthjgohbkpjhkeaaGreatDoorW.PrintLast Go.Proofs.YthjgohbkpjhkeaaGreatDoorW.PrintMore Go.Proofs.YthjgohbkpjhkeaaGreatDoor.PFnExactDo Go.Proofs.YthjgohbkpjhkeaaGreatDoor.MapLib Go.Proofs.YthjgohbkpjhkeaaGreatDoor.FireSpec Go.Proofs.YthjgohbkpjhkeaaGreatDoor.Tr
theorem sloop_ok : ∀ (xs : List Nd) (f : Bool) (seen : List Int) (left : List Nat), sloop f seen left xs = true → ∀ i (h : i < xs.length), xs[i].ok (f && i == 0) = true
 | [], _, _, _, _, i, h => by simp at h
 | x :: xs, f, seen, left, hs, i, h => by
  unfold sloop at hs
  split at hs
  ·cases hs
  ·rename_i hc
   simp only [Bool.or_eq_true, not_or, Bool.not_eq_true', Bool.not_eq_false] at hc
   cases i with
   | zero => simpa using hc.1.1
   | succ i =>
    have := sloop_ok xs _ _ _ hs i (by simpa using h)
    simpa using this
theorem treeOk_each {ns : List S95} (h : treeOk ns = true) (i : Nat) (hi : i < ns.length) : nodeOk ns[i] (i == 0) = true := by
 unfold treeOk at h
 rw [Bool.and_eq_true] at h
 have := sloop_ok _ _ _ _ h.2 i (by simpa [nds] using hi)
 simpa [nds] using this
theorem treeOk_root {ns : List S95} (h : treeOk ns = true) : kindAt ns 0 = 1 := by
 have h0 := (treeOk_parts h).1
 have := treeOk_each h 0 (by omega)
 rw [kindAt_of (by omega)]
 unfold nodeOk at this
 split at this
 ·cases this
 ·rename_i hc
  simp only [not_or] at hc
  have := hc.2.2
  simpa using this
theorem treeOk_id {ns : List S95} (h : treeOk ns = true) {id : Int} {j : Nat} (hp : place ns id = some j) : 0 ≤ id := by
 obtain ⟨hj, he⟩ := place_some hp
 have := treeOk_each h j hj
 rw [getD_of hj] at he
 rw [← he]
 unfold nodeOk at this
 split at this
 ·cases this
 ·rename_i hc; simp only [not_or] at hc; omega
structure SpecIn (w : World) (ns : List S95) (A0 : Option Addr) (c0 : Nat) (C : Chg) (A : Option Addr) (c : Nat) : Prop where
 r : Kd.C k95 w A0 ns.length ns
 c0 : ns.length ≤ c0
 a : ∀ n ∈ ns, n.f3.length < 1000000000
 rC : Kd.C k95 w A C.f7.length C.f7
 cC : C.f7.length ≤ c
 n : C.f7.length ≤ 1100000
 aC : ∀ n ∈ C.f7, n.f3.length < 1000000000
def Did (w : World) (ns : List S95) (A0 : Option Addr) (c0 : Nat) (C : Chg) (A : Option Addr) (c : Nat) (out : List S95) (R : Chg) (code : Int) : Prop := Calls Tryz.prog 41 #[.agg #[.slice A0 ns.length c0], chv C A c] w (DidEnd w out R code)
def didRes (ns : List S95) (C : Chg) : List S95 × Chg × Int := match actCode ns C with
 | some k => ([], zC, k)
 | none => ((actOut ns C).2, (actOut ns C).1, 0)
section
variable {w : World} {ns : List S95} {A0 : Option Addr} {c0 : Nat} {C : Chg} {A : Option Addr} {c : Nat}
theorem SpecIn.good (h : SpecIn w ns A0 c0 C A c) (hok : treeOk ns = true) : FireSpec.Good ns := Good.of hok (fun n hn => by have := h.a n hn; omega)
theorem copy_S (h : SpecIn w ns A0 c0 C A c) (hok : treeOk ns = true) : ∀ W, Kd.C k95 W A0 ns.length ns → Calls Tryz.prog 51 #[.slice A0 ns.length c0] W fun e w' => ∃ g n c, e = .returned (.slice (some ⟨g, 0, none⟩) n c) ∧ Kd.S k95 95 w' W.heap.size (fun _ => True) (.slice (some ⟨g, 0, none⟩) n c) ns ∧ n = ns.length ∧ Below W.heap.size W w' := fun W hW => by
 obtain ⟨h1, h2, _⟩ := treeOk_parts hok
 refine (l5Nodes_calls ns (by omega) (fun n hn => by have := h.a n hn; omega) A0 c0 W hW h.c0).mono ?_
 rintro e w' ⟨v, rfl, hS, hb⟩
 obtain ⟨g, c, rfl, _⟩ := Kd.S_form hS (by omega)
 exact ⟨g, _, c, rfl, hS, rfl, hb⟩
theorem copy_N (h : SpecIn w ns A0 c0 C A c) (hok : treeOk ns = true) : ∀ W, Kd.C k95 W A0 ns.length ns → Calls Tryz.prog 51 #[.slice A0 ns.length c0] W fun e w' => ∃ g n c, e = .returned (.slice (some ⟨g, 0, none⟩) n c) ∧ Kd.N k95 95 w' W.heap.size (fun k => W.heap.size ≤ k) (.slice (some ⟨g, 0, none⟩) n c) ns ∧ n = ns.length ∧ W.heap.size ≤ g ∧ Below W.heap.size W w' := fun W hW => by
 refine (copy_S h hok W hW).mono ?_
 rintro e w' ⟨g, n, c, rfl, hS, hn, hb⟩
 have hN := Kd.N_mono (Kd.S_N (Kd.S_bound hS)) (ok' := fun k => W.heap.size ≤ k) (fun k hk => hk.2.1)
 exact ⟨g, n, c, rfl, hN, hn, Kd.N_base hN g rfl, hb⟩
theorem kind_rd {j : Nat} (hj : j < ns.length) : (rd_T95 ns (j : Int)).f1 = kindAt ns j := by rw [get_rd hj, kindAt_of hj]
theorem did_insert (h : SpecIn w ns A0 c0 C A c) (hok : treeOk ns = true) (h0 : C.f0 = 1) : match insertCode ns (parOf (kids ns)) C with
  | some k => Did w ns A0 c0 C A c [] zC k
  | none => Did w ns A0 c0 C A c (outI ns C).2 (outI ns C).1 0 := by
 have g := h.good hok
 unfold insertCode
 rcases aim_all g C with ⟨hg, hA⟩ | ⟨hg, p, x, ⟨hp, hx⟩, hA⟩
 ·rw [hg]
  exact did_aim1 w ns C A0 c0 A c h.r h.c0 h0 (fun W hW => hA W A0 c0 A c hW h.c0)
 ·have hpl := (place_some hp).1
  rw [hg, hp]
  simp only
  have hH : spec_l5Holds.f (rd_T95 ns (p : Int)).f0 (rd_T95 ns (p : Int)).f1 (rd_T95 ns (p : Int)).f2 (rd_T95 ns (p : Int)).f3 (rd_T95 ns (p : Int)).f4 (rd_T95 ns (p : Int)).f5 = some (decide (kindAt ns p = 1 ∨ kindAt ns p = 2)) := by
   rw [holds_f, kind_rd hpl]
  by_cases hh : kindAt ns p = 1 ∨ kindAt ns p = 2
  ·rw [decide_eq_true hh] at hH
   have e1 : (!(kindAt ns p == 2 || kindAt ns p == 1)) = false := by rcases hh with hh | hh <;> simp [hh]
   rw [e1, Bool.false_or]
   by_cases hn : C.f7.length = 0
   ·have hw : wholeF C.f7 = false := by
     rw [Bool.eq_false_iff]
     intro hw
     have := ((whole_E C.f7).1 hw).2
     rw [List.eq_nil_of_length_eq_zero hn] at this
     simp [E, kids, fin] at this
    rw [hw]
    exact did_ins_nil w ns C A0 c0 A c h.r h.c0 h0 p x hpl (fun W hW => hA W A0 c0 A c hW h.c0) true hH rfl hn
   ·obtain ⟨k3, hk3⟩ := (skip_f C.f7 (by have := h.n; omega) 0 (Nat.zero_le _)).some
    rw [List.drop_zero] at hk3
    have hsw := skip_whole C.f7.length C.f7 1 0 (Nat.le_refl _)
    simp only [Nat.zero_add] at hsw
    by_cases hw : wholeF C.f7 = true
    ·rw [hw]
     simp only [Bool.not_true, Bool.false_eq_true, if_false]
     obtain ⟨hk, hE⟩ := (whole_E C.f7).1 hw
     have hr : skipL C.f7.length C.f7 1 (0 : Nat) = C.f7.length := by
      have := hsw.2 ⟨hk, hE⟩
      simpa using this
     have hxE : E (kids ns) (p + 1) x = some (goalPos ns C p) := by
      unfold goalPos
      rcases hx with ⟨h3, rfl⟩ | ⟨h3, b, hb, hK⟩
      ·obtain ⟨s, hs, _⟩ := g.own hpl
       rw [if_pos h3]
       unfold endOf
       rw [hs, Option.getD_some]
       exact (E_one hs).2
      ·rw [if_neg h3, hb, Option.getD_some]
       exact hK.2.2
     have hgp : goalPos ns C p ≤ ns.length := by
      have h1 := E_bounds hxE
      rcases Nat.eq_zero_or_pos x with hz | hz
      ·rw [hz, E_zero] at hxE
       injection hxE with hxE
       omega
      ·have := (h1.2 hz).2
       simpa [kids] using this
     have hxl := kid_le hxE
     have hb := g.b
     have hkp : kid ns[p] ≤ 1000000 := by
      obtain ⟨e, he, _⟩ := g.in_ hpl
      have := kid_le he
      rw [kids_at hpl] at this
      omega
     have hk4 := put_f (what := C.f7) (by omega) g.k g.a (by have := h.n; omega) (fun n hn => by have := h.aC n hn; omega) hpl (by omega) hxE hgp hkp
     have hd := did_ins w ns C A0 c0 A c h.r h.c0 h0 p x hpl (fun W hW => hA W A0 c0 A c hW h.c0) true hH rfl h.rC h.cC hn k3 _ hk3 (by simpa using hr) (putN ns p (goalPos ns C p) C.f7) (fun W hW => by
      exact hk4.calls A0 c0 A c W (Kd.C_below h.r hW) h.c0 (Kd.C_below h.rC hW) h.cC)
     have e : outI ns C = (⟨2, (rd_T95 C.f7 0).f0, 0, 0, ⟨#[]⟩, ⟨#[]⟩, 0, []⟩, putN ns p (goalPos ns C p) C.f7) := by unfold outI; rw [hp]; rfl
     rw [e]
     exact hd
    ·rw [show wholeF C.f7 = false by simpa using hw]
     exact did_ins_skip w ns C A0 c0 A c h.r h.c0 h0 p x hpl (fun W hW => hA W A0 c0 A c hW h.c0) true hH rfl h.rC h.cC hn k3 _ hk3 (fun hr => hw ((whole_E C.f7).2 (hsw.1 (by simpa using hr))))
  ·rw [decide_eq_false hh] at hH
   have e1 : (!(kindAt ns p == 2 || kindAt ns p == 1)) = true := by simp only [not_or] at hh; simp [hh.1, hh.2]
   rw [e1, Bool.true_or]
   exact did_ins_kind w ns C A0 c0 A c h.r h.c0 h0 p x hpl (fun W hW => hA W A0 c0 A c hW h.c0) false hH rfl
theorem at_place (h : SpecIn w ns A0 c0 C A c) (hok : treeOk ns = true) {j : Nat} (hp : place ns C.f1 = some j) : ∃ k, spec_l4At.f k ns C.f1 = some (j : Int) := at_is (h.good hok).b (by rw [hp])
theorem up_of (hok : treeOk ns = true) {j : Nat} (hj : j < ns.length) (h0 : j ≠ 0) : ∃ P i e, Kid (kids ns) P i j ∧ E (kids ns) j 1 = some e ∧ parN ns j = P ∧ endOf ns j = e := by
 obtain ⟨_, _, _, h4, _⟩ := treeOk_parts hok
 obtain ⟨P, i, hK⟩ := parOf_in (j := j) (by rw [show (kids ns).length = ns.length by simp [kids]]; exact h4) (by omega) (by simpa [kids] using hj)
 obtain ⟨e, he, _⟩ := E_inside _ _ _ _ j rfl h4 (Nat.zero_le _) hj
 exact ⟨P, i, e, hK, he, by unfold parN; rw [parOf_of hK]; rfl, by unfold endOf; rw [he]; rfl⟩
theorem did_remove_all (h : SpecIn w ns A0 c0 C A c) (hok : treeOk ns = true) (h0 : C.f0 = 2) {j : Nat} (hp : place ns C.f1 = some j) (hj0 : j ≠ 0) : Did w ns A0 c0 C A c (outR ns j).2 (outR ns j).1 0 := by
 have g := h.good hok
 have hj := (place_some hp).1
 obtain ⟨k1, hk1⟩ := at_place h hok hp
 obtain ⟨P, i, e, hK, he, hP, hE⟩ := up_of hok hj hj0
 obtain ⟨k2, r1, r4, r5, r6⟩ := remove_f g hK he hj
 refine did_remove w ns C A0 c0 A c h.r h.c0 h0 k1 j hk1 hj hj0 _ _ _ (fun W hW => ?_)
 unfold outR
 rw [hP, hE]
 exact removed W ns A0 c0 hW h.c0 j P i _ _ _ k2 (by have := hK.lt; omega) _ rfl r1 r4 r5 r6
theorem did_text_all (h : SpecIn w ns A0 c0 C A c) (hok : treeOk ns = true) (h0 : C.f0 = 6) {j : Nat} (hp : place ns C.f1 = some j) (hj0 : j ≠ 0) : if kindAt ns j = 3 then Did w ns A0 c0 C A c (outT ns C j).2 (outT ns C j).1 0 else Did w ns A0 c0 C A c [] zC 3 := by
 have hj := (place_some hp).1
 obtain ⟨k1, hk1⟩ := at_place h hok hp
 split
 ·rename_i hk
  exact did_text w ns C A0 c0 A c h.r h.c0 h0 k1 j hk1 hj hj0 (by rw [kind_rd hj]; exact hk) (copy_N h hok)
 ·rename_i hk
  exact did_text_bad w ns C A0 c0 A c h.r h.c0 h0 k1 j hk1 hj hj0 (by rw [kind_rd hj]; exact hk)
theorem eraseIdx_cut {α : Type} (l : List α) (i : Nat) : l.take i ++ l.drop (i + 1) = l.eraseIdx i := (List.eraseIdx_eq_take_drop_succ l i).symm
theorem did_attr_all (h : SpecIn w ns A0 c0 C A c) (hok : treeOk ns = true) (h0 : C.f0 = 4 ∨ C.f0 = 5) {j : Nat} (hp : place ns C.f1 = some j) (hj0 : j ≠ 0) : match (if C.f0 = 4 then attrCode ns C else dropCode ns C) with
  | some k => Did w ns A0 c0 C A c [] zC k
  | none => Did w ns A0 c0 C A c (if C.f0 = 4 then outA ns C j else outD ns C j).2 (if C.f0 = 4 then outA ns C j else outD ns C j).1 0 := by
 have hj := (place_some hp).1
 obtain ⟨k1, hk1⟩ := at_place h hok hp
 have hal := h.a _ (List.getElem_mem hj)
 have key : ∀ out R code, (∀ W, Kd.C k95 W A0 ns.length ns → Calls Tryz.prog 73 #[.agg #[.slice A0 ns.length c0], chv C A c, .int .i64 j] W (DidEnd W out R code)) → Did w ns A0 c0 C A c out R code := fun out R code hX =>
  did_attrs w ns C A0 c0 A c h.r h.c0 h0 k1 j hk1 hj hj0 out R code hX
 have hal2 : ns[j].f3.length < 2 ^ 62 := by omega
 have hkr := kind_rd hj
 have hnd := getD_of hj
 have hE : elementCode ns C = if kindAt ns j = 2 then none else some 3 := by unfold elementCode; rw [hp]
 by_cases hk : kindAt ns j = 2
 ·rw [if_pos hk] at hE
  rw [hk] at hkr
  have hLS := copy_S h hok
  have hat : attrsOf ns j = ns[j].f3 := by unfold attrsOf; rw [List.getElem?_eq_getElem hj]; rfl
  by_cases h4 : C.f0 = 4
  ·rw [if_pos h4, if_pos h4]
   unfold attrCode
   rw [hE]
   simp only
   by_cases hn : C.f4 = ⟨#[]⟩
   ·rw [if_pos hn]
    exact key _ _ _ (fun W hW => attrs_all W ns C A0 c0 A c hW h.c0 j hj hal2 _ rfl ns[j] hnd _ _ _ (.name hkr h4 hn))
   ·rw [if_neg hn]
    unfold outA
    simp only [hnd]
    cases hi : idxA C.f4 ns[j].f3 with
    | some i =>
     have hil := idxA_lt hi
     exact key _ _ _ (fun W hW => attrs_all W ns C A0 c0 A c hW h.c0 j hj hal2 (i : Int) (by rw [hi]; rfl) ns[j] hnd _ _ _ (.old hkr h4 hn i hil _ rfl rfl hLS))
    | none =>
     simp only
     have hr : (-1 : Int) = idxI (idxA C.f4 ns[j].f3) := by rw [hi]; rfl
     have hap : ∀ i, (ns[j].f3.take i ++ [⟨C.f4, C.f5⟩]) ++ ns[j].f3.drop i = ns[j].f3.take i ++ ⟨C.f4, C.f5⟩ :: ns[j].f3.drop i := fun i => by rw [List.append_assoc]; rfl
     have hii : ((if C.f6 < 0 ∨ (ns[j].f3.length : Int) < C.f6 then ns[j].f3.length else C.f6.toNat : Nat) : Int) = if C.f6 < 0 ∨ (ns[j].f3.length : Int) < C.f6 then (ns[j].f3.length : Int) else C.f6 := by split <;> omega
     exact key _ _ _ (fun W hW => attrs_all W ns C A0 c0 A c hW h.c0 j hj hal2 _ hr ns[j] hnd _ _ _ (.new hkr h4 hn hal (by omega) _ hii _ rfl _ (hap _) hLS))
  ·have h5 : C.f0 = 5 := by omega
   rw [if_neg h4, if_neg h4]
   unfold dropCode
   rw [hE, hp]
   simp only [hat]
   cases hi : idxA C.f4 ns[j].f3 with
   | none =>
    rw [if_pos rfl]
    exact key _ _ _ (fun W hW => attrs_all W ns C A0 c0 A c hW h.c0 j hj hal2 (-1) (by rw [hi]; rfl) ns[j] hnd _ _ _ (.gone hkr h5 (by omega)))
   | some i =>
    have hil := idxA_lt hi
    rw [if_neg (by simp)]
    unfold outD
    simp only [hnd, hi, Option.getD_some]
    exact key _ _ _ (fun W hW => attrs_all W ns C A0 c0 A c hW h.c0 j hj hal2 (i : Int) (by rw [hi]; rfl) ns[j] hnd _ _ _ (.drop hkr h5 (by omega) i hil _ rfl rfl _ (eraseIdx_cut _ _) hLS))
 ·rw [if_neg hk] at hE
  have hX := key _ _ _ (fun W hW => attrs_all W ns C A0 c0 A c hW h.c0 j hj hal2 _ rfl ns[j] hnd _ _ _ (.kind (by rw [hkr]; exact hk)))
  have : (if C.f0 = 4 then attrCode ns C else dropCode ns C) = some 3 := by
   split
   ·unfold attrCode; rw [hE]
   ·unfold dropCode; rw [hE]
  rw [this]
  exact hX
theorem did_move_all (h : SpecIn w ns A0 c0 C A c) (hok : treeOk ns = true) (h0 : C.f0 = 3) {j : Nat} (hp : place ns C.f1 = some j) : match moveCode ns (parOf (kids ns)) C with
  | some k => Did w ns A0 c0 C A c [] zC k
  | none => Did w ns A0 c0 C A c (outM ns C j).2 (outM ns C j).1 0 := by
 have g := h.good hok
 have hj := (place_some hp).1
 obtain ⟨k1, hk1⟩ := at_place h hok hp
 unfold moveCode
 rw [hp]
 simp only
 rcases aim_all g C with ⟨hg, hA⟩ | ⟨hg, p, x, ⟨hpp, hx⟩, hA⟩
 ·rw [hg]
  exact did_aim3 w ns C A0 c0 A c h.r h.c0 h0 k1 j hk1 (fun W hW => hA W A0 c0 A c hW h.c0)
 ·have hpl := (place_some hpp).1
  rw [hg, hpp]
  simp only
  by_cases hj0 : j = 0
  ·subst hj0
   rw [if_pos (by simp)]
   exact did_root3 w ns C A0 c0 A c h.r h.c0 h0 k1 hk1 p x (fun W hW => hA W A0 c0 A c hW h.c0)
  ·obtain ⟨P, i, e, hK, he, hP, hEE⟩ := up_of hok hj hj0
   have hid := treeOk_id hok hp
   have hkp : (ns.getD p z95).f1 = kindAt ns p := by rw [getD_of hpl, kindAt_of hpl]
   obtain ⟨ks, hks⟩ := (skip_E (by have := g.b; omega) g.k he).some
   have cnd : (!decide ((rd_T95 ns (p : Int)).f1 = 1 ∨ (rd_T95 ns (p : Int)).f1 = 2) || (decide (j ≤ p) && decide (p < e)) || (C.f3 == C.f1)) = true ↔ moveBad ns C j e p := by
    show (!decide ((ns.getD p z95).f1 = 1 ∨ (ns.getD p z95).f1 = 2) || (decide (j ≤ p) && decide (p < e)) || (C.f3 == C.f1)) = true ↔ _
    unfold moveBad
    simp only [Bool.or_eq_true, Bool.and_eq_true, decide_eq_true_eq, Bool.not_eq_true', decide_eq_false_iff_not, beq_iff_eq, or_assoc]
   have move : ∀ out R code, (moveBad ns C j e p → out = [] ∧ R = zC ∧ code = 3) → (¬ moveBad ns C j e p → ∃ k P i n0 nx p2 c1 c2, MoveOk ns C j p x k P i n0 nx p2 c1 c2 out ∧ R = ⟨3, C.f1, n0, nx, ⟨#[]⟩, ⟨#[]⟩, 0, []⟩ ∧ code = 0) → Did w ns A0 c0 C A c out R code := fun out R code hb hg =>
    did_move w ns C A0 c0 A c h.r h.c0 h0 k1 j hk1 hj hj0 p x (fun W hW => hA W A0 c0 A c hW h.c0) out _ code (fun W hW _ =>
     moved W ns C A0 c0 A c hW h.c0 j p e x hpl ks hks _ _ _ _ rfl rfl rfl rfl out R code (fun q => hb (cnd.1 q)) (fun q => hg (fun q2 => by rw [cnd.2 q2] at q; cases q)))
   have bad : moveBad ns C j e p → Did w ns A0 c0 C A c [] zC 3 := fun hb => move _ _ _ (fun _ => ⟨rfl, rfl, rfl⟩) (fun q => absurd hb q)
   by_cases hcond : (decide (j = 0) || !(kindAt ns p == 2 || kindAt ns p == 1) || (C.f3 != -1 && C.f3 == C.f1)) = true
   ·rw [if_pos hcond]
    refine bad ?_
    unfold moveBad
    rw [hkp]
    simp only [Bool.or_eq_true, decide_eq_true_eq, hj0, false_or, Bool.not_eq_true', Bool.or_eq_false_iff, beq_eq_false_iff_ne, ne_eq, Bool.and_eq_true, bne_iff_ne, beq_iff_eq] at hcond
    rcases hcond with hc | hc
    ·exact .inl (by omega)
    ·exact .inr (.inr hc.2)
   ·rw [if_neg hcond]
    simp only [Bool.or_eq_true, decide_eq_true_eq, hj0, false_or, Bool.not_eq_true', Bool.or_eq_false_iff, beq_eq_false_iff_ne, ne_eq, Bool.and_eq_true, bne_iff_ne, beq_iff_eq, not_or, not_and] at hcond
    obtain ⟨hh, h31⟩ := hcond
    have hh2 : kindAt ns p = 1 ∨ kindAt ns p = 2 := by omega
    have h31' : C.f3 ≠ C.f1 := by
     intro he2
     by_cases h3 : C.f3 = -1
     ·omega
     ·exact h31 h3 he2
    by_cases hu : isUp (parOf (kids ns)) j (p + 1) (some p) = true
    ·rw [if_pos hu]
     exact bad (.inr (.inl (isUp_out he _ _ hu)))
    ·rw [if_neg hu]
     have hpo : p < j ∨ e ≤ p := by
      rcases Nat.lt_or_ge p j with h1 | h1
      ·exact .inl h1
      ·rcases Nat.lt_or_ge p e with h2 | h2
       ·exact absurd (isUp_in he _ (p + 1) p rfl h1 h2 (by omega)) hu
       ·exact .inr h2
     have hje := (E_bounds he).2 (by omega)
     have hel : e ≤ ns.length := by have := hje.2; simpa [kids] using this
     have hM := move_good g (treeOk_nodup hok) C hK he hj hp hpp hpo (by rw [hkp]; exact hh2) h31' (hx.imp id (fun ⟨a, b⟩ => ⟨a, h31', b⟩))
     have eO : outM ns C j = (⟨3, C.f1, (ns.getD P z95).f0, nextN ns P e, ⟨#[]⟩, ⟨#[]⟩, 0, []⟩, putN (cutN ns P j e) (off j e p) (goalPos (cutN ns P j e) C (off j e p)) ((ns.take e).drop j)) := by
      unfold outM cutOf
      rw [hP, hEE, place_cut (treeOk_nodup hok) (by omega) hel hpp hpo]
      rfl
     rw [eO]
     obtain ⟨km, hm⟩ := hM
     refine move _ _ _ (fun q => ?_) (fun _ => ⟨km, P, i, _, _, _, _, _, hm, rfl, rfl⟩)
     exfalso
     rcases q with q | q | q
     ·exact q (by rw [hkp]; exact hh2)
     ·omega
     ·exact h31' q
theorem did_all (h : SpecIn w ns A0 c0 C A c) (hok : treeOk ns = true) : Did w ns A0 c0 C A c (didRes ns C).1 (didRes ns C).2.1 (didRes ns C).2.2 := by
 have fin : ∀ (o : Option Int) (O : Out), actCode ns C = o → actOut ns C = O → (match o with | some k => Did w ns A0 c0 C A c [] zC k | none => Did w ns A0 c0 C A c O.2 O.1 0) → Did w ns A0 c0 C A c (didRes ns C).1 (didRes ns C).2.1 (didRes ns C).2.2 := fun o O h1 h2 h3 => by
  unfold didRes
  rw [h1, h2]
  cases o <;> exact h3
 by_cases c1 : C.f0 = 1
 ·exact fin (insertCode ns (parOf (kids ns)) C) (outI ns C) (by unfold actCode; rw [if_pos c1]) (by unfold actOut; rw [if_pos c1]) (did_insert h hok c1)
 cases hp : place ns C.f1 with
 | none =>
  obtain ⟨k1, hk1⟩ := at_is (h.good hok).b (id := C.f1) (r := -1) (by rw [hp])
  have hE : elementCode ns C = some 2 := by unfold elementCode; rw [hp]
  refine fin (some 2) _ ?_ rfl (did_noId w ns C A0 c0 A c h.r h.c0 c1 k1 hk1)
  unfold actCode
  rw [if_neg c1]
  split
  ·unfold removeCode; rw [hp]
  split
  ·unfold moveCode; rw [hp]
  split
  ·unfold attrCode; rw [hE]
  split
  ·unfold dropCode; rw [hE]
  split
  ·unfold textCode; rw [hp]
  ·unfold noCode; rw [hp]; rfl
 | some j =>
  have hj := (place_some hp).1
  obtain ⟨k1, hk1⟩ := at_place h hok hp
  have hat : atOf ns C = j := by unfold atOf; rw [hp]; rfl
  by_cases c3 : C.f0 = 3
  ·exact fin (moveCode ns (parOf (kids ns)) C) (outM ns C j) (by unfold actCode; rw [if_neg c1, if_neg (by omega), if_pos c3]) (by unfold actOut; rw [if_neg c1, if_neg (by omega), if_pos c3, hat]) (did_move_all h hok c3 hp)
  have no : C.f0 < 1 ∨ 6 < C.f0 → actCode ns C = some 3 := fun hc => by
   unfold actCode
   rw [if_neg c1, if_neg (by omega), if_neg c3, if_neg (by omega), if_neg (by omega), if_neg (by omega)]
   unfold noCode
   rw [hp]
   rfl
  by_cases cl : C.f0 < 1
  ·exact fin (some 3) _ (no (.inl cl)) rfl (did_low w ns C A0 c0 A c h.r h.c0 cl k1 j hk1)
  by_cases ch : 6 < C.f0
  ·exact fin (some 3) _ (no (.inr ch)) rfl (did_high w ns C A0 c0 A c h.r h.c0 ch k1 j hk1)
  by_cases hj0 : j = 0
  ·subst hj0
   have hr := treeOk_root hok
   have hE : elementCode ns C = some 3 := by unfold elementCode; rw [hp]; simp only; rw [hr]; rfl
   refine fin (some 3) _ ?_ rfl (did_root w ns C A0 c0 A c h.r h.c0 ⟨by omega, by omega, c3⟩ k1 hk1)
   unfold actCode
   rw [if_neg c1]
   split
   ·unfold removeCode; rw [hp]; rfl
   try rw [if_neg c3]
   split
   ·unfold attrCode; rw [hE]
   split
   ·unfold dropCode; rw [hE]
   rw [if_pos (by omega)]
   unfold textCode
   rw [hp]
   simp only
   rw [hr]
   rfl
  by_cases c2 : C.f0 = 2
  ·refine fin none (outR ns j) ?_ (by unfold actOut; rw [if_neg c1, if_pos c2, hat]) (did_remove_all h hok c2 hp hj0)
   unfold actCode removeCode
   rw [if_neg c1, if_pos c2, hp]
   simp only
   rw [if_neg hj0]
  by_cases c6 : C.f0 = 6
  ·have ht := did_text_all h hok c6 hp hj0
   refine fin (textCode ns C) (outT ns C j) (by unfold actCode; rw [if_neg c1, if_neg c2, if_neg c3, if_neg (by omega), if_neg (by omega), if_pos c6]) (by unfold actOut; rw [if_neg c1, if_neg c2, if_neg c3, if_neg (by omega), if_neg (by omega), hat]) ?_
   unfold textCode
   rw [hp]
   simp only
   split at ht
   ·rename_i hk; rw [if_pos hk]; exact ht
   ·rename_i hk; rw [if_neg hk]; exact ht
  ·have ht := did_attr_all h hok (by omega) hp hj0
   by_cases c4 : C.f0 = 4
   ·rw [if_pos c4, if_pos c4] at ht
    exact fin (attrCode ns C) (outA ns C j) (by unfold actCode; rw [if_neg c1, if_neg c2, if_neg c3, if_pos c4]) (by unfold actOut; rw [if_neg c1, if_neg c2, if_neg c3, if_pos c4, hat]) ht
   ·rw [if_neg c4, if_neg c4] at ht
    exact fin (dropCode ns C) (outD ns C j) (by unfold actCode; rw [if_neg c1, if_neg c2, if_neg c3, if_neg c4, if_pos (by omega)]) (by unfold actOut; rw [if_neg c1, if_neg c2, if_neg c3, if_neg c4, if_pos (by omega), hat]) ht
end
end Go.Proofs.YthjgohbkpjhkeaaGreatDoor.Impl
set_option maxHeartbeats 4000000
set_option maxRecDepth 100000
namespace Go.Proofs.YthjgohbkpjhkeaaGreatDoor.Impl
open Go.RowKit Go.Proofs.YthjgohbkpjhkeaaGreatDoorW.PrintWords Go.Proofs.YthjgohbkpjhkeaaGreatDoorW.PrintLast Go.Proofs.YthjgohbkpjhkeaaGreatDoorW.PrintMore Go.Proofs.YthjgohbkpjhkeaaGreatDoor.PFnExactDo Go.Proofs.YthjgohbkpjhkeaaGreatDoor.MapLib Go.Proofs.YthjgohbkpjhkeaaGreatDoor.FireSpec Go.Proofs.YthjgohbkpjhkeaaGreatDoor.Tr
def SDone (w : World) (out : List S95) (R : Chg) (code : Int) (e : Ending) (w' : World) : Prop :=
 ∃ A c A' c', e = .returned (.tuple #[.agg #[.slice A out.length c], chv R A' c', .int .i64 code]) ∧ Kd.F k95 w' (fun k => w.heap.size ≤ k) A out.length out ∧ out.length ≤ c ∧ Kd.F k95 w' (fun k => w.heap.size ≤ k) A' R.f7.length R.f7 ∧ R.f7.length ≤ c' ∧ Below w.heap.size w w'
structure VB (w W : World) (A0 : Option Addr) (n c0 : Nat) (C : Chg) (A : Option Addr) (c : Nat) : Prop where
 s : SB w W A0 n c0 C A c
 y : W.heap[w.heap.size + 1 + 1]? = some (boxT 0 none 0)
 z : W.heap[w.heap.size + 1 + 1 + 1]? = some (mbox8 zC none 0 33)
theorem VB.four {w : World} {A0 : Option Addr} {n c0 : Nat} {C : Chg} {A : Option Addr} {c : Nat} : VB w ((((w.alloc (.cells #[.slice A0 n c0] 31)).alloc (mbox8 C A c 33)).alloc (.cells #[.slice none 0 0] 31)).alloc (mbox8 zC none 0 33)) A0 n c0 C A c := by
 obtain ⟨h1, h2, h3, h4, h5, h6⟩ := box_four w n A0 c0 C A c
 exact ⟨⟨h1, h2, h3⟩, h4, h5⟩
section
variable {w W W' : World} {A0 : Option Addr} {n c0 : Nat} {C : Chg} {A : Option Addr} {c : Nat}
theorem VB.below (h : VB w W A0 n c0 C A c) (hb : Below W.heap.size W W') : VB w W' A0 n c0 C A c := ⟨h.s.below hb, blk_below h.y hb, blk_below h.z hb⟩
end
theorem udo_not (w : World) (ns : List S95) (C : Chg) (A0 : Option Addr) (c0 : Nat) (A : Option Addr) (c : Nat) (b1 : Bool) (hT : ∀ W, Below w.heap.size w W → Calls Tryz.prog 40 #[.agg #[.slice A0 ns.length c0]] W fun e w' => e = .returned (.bool b1) ∧ Below W.heap.size W w') (hb : b1 = false) :
  Calls Tryz.prog 10 #[.agg #[.slice A0 ns.length c0], chv C A c] w (SDone w [] zC 1) := by
 have HT := am hT
 clear hT
 subst hb
 go_enter Tryz.func10, Tryz.ntmps10
 go_wp2_with fail
 have HS0 := am (VB.four (w := w) (A0 := A0) (n := ns.length) (c0 := c0) (C := C) (A := A) (c := c))
 generalize World.alloc _ _ = w1 at HS0 ⊢
 refine (HT.out w1 HS0.out.s.b).mono ?_
 rintro e w2 ⟨rfl, hb2⟩
 have HS2 := am (HS0.out.below hb2)
 clear hb2 HS0
 obtain ⟨xt, x0, x1, x2, x3, x4, x5, x6, x7⟩ := HS2.out.s.cells
 have q0 := blk_cell HS2.out.y 0
 have qf := blk_frozen HS2.out.y 0
 obtain ⟨z0, z1, z2, z3, z4, z5, z6, z7⟩ := cells8t HS2.out.z
 have zf := fun k => blk_frozen HS2.out.z k
 go_wp2
 clear xt x0 x1 x2 x3 x4 x5 x6 x7 q0 qf z0 z1 z2 z3 z4 z5 z6 z7 zf
 generalize hw9 : World.setCell _ _ _ = w9
 obtain ⟨k1, k2, k3, k4, k5⟩ := two_boxes (F := zC) HS2.out.y HS2.out.z (by omega) hw9.symm (n := 0) (A := none) (c := 0) (A3 := none) (c3 := 0)
 have g0 := blk_cell k1 0
 obtain ⟨y0, y1, y2, y3, y4, y5, y6, y7⟩ := cells8t k2
 have hut := Tryz.underlying33
 have hutr := Tryz.underlying31
 have HZ := am (k5 _ _ HS2.out.s.b (by omega) (by omega))
 clear k1 k2 k3 k4 k5 hw9
 refine bodyPost_ret (v := .tuple #[.agg #[.slice none 0 0], chv zC none 0, .int .i64 1]) (by simp [results, Tryz.results10, go_sem, g0, y0, y1, y2, y3, y4, y5, y6, y7, hut, hutr]) rfl (show SDone _ _ _ _ _ _ from ?_)
 exact ⟨none, 0, none, 0, rfl, none_reads _ _, Nat.le_refl _, none_reads _ _, Nat.le_refl _, HZ.out⟩
theorem udo_code (w : World) (ns : List S95) (C : Chg) (A0 : Option Addr) (c0 : Nat) (A : Option Addr) (c : Nat) (b1 : Bool) (hT : ∀ W, Below w.heap.size w W → Calls Tryz.prog 40 #[.agg #[.slice A0 ns.length c0]] W fun e w' => e = .returned (.bool b1) ∧ Below W.heap.size W w') (out : List S95) (R : Chg) (code : Int) (hD : ∀ W, Below w.heap.size w W → Calls Tryz.prog 41 #[.agg #[.slice A0 ns.length c0], chv C A c] W (DidEnd W out R code)) (hb : b1 = true) (hc : code ≠ 0) :
  Calls Tryz.prog 10 #[.agg #[.slice A0 ns.length c0], chv C A c] w (SDone w [] zC code) := by
 have HT := am hT
 clear hT
 subst hb
 have HD := am hD
 clear hD
 have e1 : (code == 0) = false := by simpa using hc
 have e2 : (code != 0) = true := by simpa using hc
 clear hc
 go_enter Tryz.func10, Tryz.ntmps10
 go_wp2_with fail
 have HS0 := am (VB.four (w := w) (A0 := A0) (n := ns.length) (c0 := c0) (C := C) (A := A) (c := c))
 generalize World.alloc _ _ = w1 at HS0 ⊢
 refine (HT.out w1 HS0.out.s.b).mono ?_
 rintro e w2 ⟨rfl, hb2⟩
 have HS2 := am (HS0.out.below hb2)
 clear hb2 HS0
 obtain ⟨xt, x0, x1, x2, x3, x4, x5, x6, x7⟩ := HS2.out.s.cells
 have q0 := blk_cell HS2.out.y 0
 have qf := blk_frozen HS2.out.y 0
 obtain ⟨z0, z1, z2, z3, z4, z5, z6, z7⟩ := cells8t HS2.out.z
 have zf := fun k => blk_frozen HS2.out.z k
 go_wp2_with fail
 refine (HD.out w2 HS2.out.s.b).mono ?_
 rintro e w3 ⟨A1, c1, A2, c2, rfl, hf1, hc1, hf2, hc2, hb3⟩
 have HS3 := am (HS2.out.below hb3)
 have HF3 := am (And.intro hf1 (And.intro hc1 (And.intro hf2 (And.intro hc2 (And.intro hb3.size (blk_lt HS2.out.z))))))
 clear hb3 hf1 hc1 hf2 hc2
 clear xt x0 x1 x2 x3 x4 x5 x6 x7 q0 qf z0 z1 z2 z3 z4 z5 z6 z7 zf
 obtain ⟨xt, x0, x1, x2, x3, x4, x5, x6, x7⟩ := HS3.out.s.cells
 have q0 := blk_cell HS3.out.y 0
 have qf := blk_frozen HS3.out.y 0
 obtain ⟨z0, z1, z2, z3, z4, z5, z6, z7⟩ := cells8t HS3.out.z
 have zf := fun k => blk_frozen HS3.out.z k
 go_upto_region 4 with (fail)
 have HB4 := am (show Below w3.heap.size w3 (w3.alloc (mbox8 R A2 c2 33)) ∧ (w3.alloc (mbox8 R A2 c2 33)).heap[w3.heap.size]? = some (mbox8 R A2 c2 33) from ⟨(Below.refl _ w3).alloc (Nat.le_refl _) _, blk_newest w3 _⟩)
 generalize hw4 : World.alloc w3 _ = w4 at HB4 ⊢
 have HB4 := am (show Below w3.heap.size w3 w4 ∧ w4.heap[w3.heap.size]? = some (mbox8 R A2 c2 33) from HB4.out)
 clear hw4
 have HS4 := am (HS3.out.below HB4.out.1)
 clear xt x0 x1 x2 x3 x4 x5 x6 x7 q0 qf z0 z1 z2 z3 z4 z5 z6 z7 zf
 obtain ⟨xt, x0, x1, x2, x3, x4, x5, x6, x7⟩ := HS4.out.s.cells
 have q0 := blk_cell HS4.out.y 0
 have qf := blk_frozen HS4.out.y 0
 obtain ⟨z0, z1, z2, z3, z4, z5, z6, z7⟩ := cells8t HS4.out.z
 have zf := fun k => blk_frozen HS4.out.z k
 go_wp2
 clear xt x0 x1 x2 x3 x4 x5 x6 x7 q0 qf z0 z1 z2 z3 z4 z5 z6 z7 zf
 generalize hw9 : World.setCell _ _ _ = w9
 obtain ⟨k1, k2, k3, k4, k5⟩ := two_boxes (F := zC) HS4.out.y HS4.out.z (by omega) hw9.symm (n := 0) (A := none) (c := 0) (A3 := none) (c3 := 0)
 have g0 := blk_cell k1 0
 obtain ⟨y0, y1, y2, y3, y4, y5, y6, y7⟩ := cells8t k2
 have hut := Tryz.underlying33
 have hutr := Tryz.underlying31
 have HZ := am (k5 _ _ HS4.out.s.b (by omega) (by omega))
 clear k1 k2 k3 k4 k5 hw9
 refine bodyPost_ret (v := .tuple #[.agg #[.slice none 0 0], chv zC none 0, .int .i64 code]) (by simp [results, Tryz.results10, go_sem, g0, y0, y1, y2, y3, y4, y5, y6, y7, hut, hutr]) rfl (show SDone _ _ _ _ _ _ from ?_)
 exact ⟨none, 0, none, 0, rfl, none_reads _ _, Nat.le_refl _, none_reads _ _, Nat.le_refl _, HZ.out⟩
theorem udo_four (w : World) (ns : List S95) (C : Chg) (A0 : Option Addr) (c0 : Nat) (A : Option Addr) (c : Nat) (b1 : Bool) (hT : ∀ W, Below w.heap.size w W → Calls Tryz.prog 40 #[.agg #[.slice A0 ns.length c0]] W fun e w' => e = .returned (.bool b1) ∧ Below W.heap.size W w') (out : List S95) (R : Chg) (code : Int) (hD : ∀ W, Below w.heap.size w W → Calls Tryz.prog 41 #[.agg #[.slice A0 ns.length c0], chv C A c] W (DidEnd W out R code)) (b2 : Bool) (hT2 : ∀ W A1 c1, Kd.C k95 W A1 out.length out → out.length ≤ c1 → Calls Tryz.prog 40 #[.agg #[.slice A1 out.length c1]] W fun e w' => e = .returned (.bool b2) ∧ Below W.heap.size W w') (hb : b1 = true) (hc : code = 0) (hb2 : b2 = false) :
  Calls Tryz.prog 10 #[.agg #[.slice A0 ns.length c0], chv C A c] w (SDone w [] zC 4) := by
 have HT := am hT
 clear hT
 subst hb
 subst hc
 subst hb2
 have HD := am hD
 have HT2 := am hT2
 clear hD hT2
 go_enter Tryz.func10, Tryz.ntmps10
 go_wp2_with fail
 have HS0 := am (VB.four (w := w) (A0 := A0) (n := ns.length) (c0 := c0) (C := C) (A := A) (c := c))
 generalize World.alloc _ _ = w1 at HS0 ⊢
 refine (HT.out w1 HS0.out.s.b).mono ?_
 rintro e w2 ⟨rfl, hb2⟩
 have HS2 := am (HS0.out.below hb2)
 clear hb2 HS0
 obtain ⟨xt, x0, x1, x2, x3, x4, x5, x6, x7⟩ := HS2.out.s.cells
 have q0 := blk_cell HS2.out.y 0
 have qf := blk_frozen HS2.out.y 0
 obtain ⟨z0, z1, z2, z3, z4, z5, z6, z7⟩ := cells8t HS2.out.z
 have zf := fun k => blk_frozen HS2.out.z k
 go_wp2_with fail
 refine (HD.out w2 HS2.out.s.b).mono ?_
 rintro e w3 ⟨A1, c1, A2, c2, rfl, hf1, hc1, hf2, hc2, hb3⟩
 have HS3 := am (HS2.out.below hb3)
 have HF3 := am (And.intro hf1 (And.intro hc1 (And.intro hf2 (And.intro hc2 (And.intro hb3.size (blk_lt HS2.out.z))))))
 clear hb3 hf1 hc1 hf2 hc2
 clear xt x0 x1 x2 x3 x4 x5 x6 x7 q0 qf z0 z1 z2 z3 z4 z5 z6 z7 zf
 obtain ⟨xt, x0, x1, x2, x3, x4, x5, x6, x7⟩ := HS3.out.s.cells
 have q0 := blk_cell HS3.out.y 0
 have qf := blk_frozen HS3.out.y 0
 obtain ⟨z0, z1, z2, z3, z4, z5, z6, z7⟩ := cells8t HS3.out.z
 have zf := fun k => blk_frozen HS3.out.z k
 go_upto_region 4 with (fail)
 have HB4 := am (show Below w3.heap.size w3 (w3.alloc (mbox8 R A2 c2 33)) ∧ (w3.alloc (mbox8 R A2 c2 33)).heap[w3.heap.size]? = some (mbox8 R A2 c2 33) from ⟨(Below.refl _ w3).alloc (Nat.le_refl _) _, blk_newest w3 _⟩)
 generalize hw4 : World.alloc w3 _ = w4 at HB4 ⊢
 have HB4 := am (show Below w3.heap.size w3 w4 ∧ w4.heap[w3.heap.size]? = some (mbox8 R A2 c2 33) from HB4.out)
 clear hw4
 have HS4 := am (HS3.out.below HB4.out.1)
 clear xt x0 x1 x2 x3 x4 x5 x6 x7 q0 qf z0 z1 z2 z3 z4 z5 z6 z7 zf
 go_wp2_with fail
 refine (HT2.out w4 A1 c1 (Kd.F_now (Kd.F_below HF3.out.1 HB4.out.1)) HF3.out.2.1).mono ?_
 rintro e w5 ⟨rfl, hb5⟩
 have HS5 := am (HS4.out.below hb5)
 have HR5 := am (And.intro (below_step HB4.out.1 hb5) (blk_below HB4.out.2 hb5))
 clear hb5
 obtain ⟨xt, x0, x1, x2, x3, x4, x5, x6, x7⟩ := HS5.out.s.cells
 have q0 := blk_cell HS5.out.y 0
 have qf := blk_frozen HS5.out.y 0
 obtain ⟨z0, z1, z2, z3, z4, z5, z6, z7⟩ := cells8t HS5.out.z
 have zf := fun k => blk_frozen HS5.out.z k
 go_wp2
 clear xt x0 x1 x2 x3 x4 x5 x6 x7 q0 qf z0 z1 z2 z3 z4 z5 z6 z7 zf
 generalize hw9 : World.setCell _ _ _ = w9
 obtain ⟨k1, k2, k3, k4, k5⟩ := two_boxes (F := zC) HS5.out.y HS5.out.z (by omega) hw9.symm (n := 0) (A := none) (c := 0) (A3 := none) (c3 := 0)
 have g0 := blk_cell k1 0
 obtain ⟨y0, y1, y2, y3, y4, y5, y6, y7⟩ := cells8t k2
 have hut := Tryz.underlying33
 have hutr := Tryz.underlying31
 have HZ := am (k5 _ _ HS5.out.s.b (by omega) (by omega))
 clear k1 k2 k3 k4 k5 hw9
 refine bodyPost_ret (v := .tuple #[.agg #[.slice none 0 0], chv zC none 0, .int .i64 4]) (by simp [results, Tryz.results10, go_sem, g0, y0, y1, y2, y3, y4, y5, y6, y7, hut, hutr]) rfl (show SDone _ _ _ _ _ _ from ?_)
 exact ⟨none, 0, none, 0, rfl, none_reads _ _, Nat.le_refl _, none_reads _ _, Nat.le_refl _, HZ.out⟩
theorem udo_done (w : World) (ns : List S95) (C : Chg) (A0 : Option Addr) (c0 : Nat) (A : Option Addr) (c : Nat) (b1 : Bool) (hT : ∀ W, Below w.heap.size w W → Calls Tryz.prog 40 #[.agg #[.slice A0 ns.length c0]] W fun e w' => e = .returned (.bool b1) ∧ Below W.heap.size W w') (out : List S95) (R : Chg) (code : Int) (hD : ∀ W, Below w.heap.size w W → Calls Tryz.prog 41 #[.agg #[.slice A0 ns.length c0], chv C A c] W (DidEnd W out R code)) (b2 : Bool) (hT2 : ∀ W A1 c1, Kd.C k95 W A1 out.length out → out.length ≤ c1 → Calls Tryz.prog 40 #[.agg #[.slice A1 out.length c1]] W fun e w' => e = .returned (.bool b2) ∧ Below W.heap.size W w') (hb : b1 = true) (hc : code = 0) (hb2 : b2 = true) :
  Calls Tryz.prog 10 #[.agg #[.slice A0 ns.length c0], chv C A c] w (SDone w out R 0) := by
 have HT := am hT
 clear hT
 subst hb
 subst hc
 subst hb2
 have HD := am hD
 have HT2 := am hT2
 clear hD hT2
 go_enter Tryz.func10, Tryz.ntmps10
 go_wp2_with fail
 have HS0 := am (VB.four (w := w) (A0 := A0) (n := ns.length) (c0 := c0) (C := C) (A := A) (c := c))
 generalize World.alloc _ _ = w1 at HS0 ⊢
 refine (HT.out w1 HS0.out.s.b).mono ?_
 rintro e w2 ⟨rfl, hb2⟩
 have HS2 := am (HS0.out.below hb2)
 clear hb2 HS0
 obtain ⟨xt, x0, x1, x2, x3, x4, x5, x6, x7⟩ := HS2.out.s.cells
 have q0 := blk_cell HS2.out.y 0
 have qf := blk_frozen HS2.out.y 0
 obtain ⟨z0, z1, z2, z3, z4, z5, z6, z7⟩ := cells8t HS2.out.z
 have zf := fun k => blk_frozen HS2.out.z k
 go_wp2_with fail
 refine (HD.out w2 HS2.out.s.b).mono ?_
 rintro e w3 ⟨A1, c1, A2, c2, rfl, hf1, hc1, hf2, hc2, hb3⟩
 have HS3 := am (HS2.out.below hb3)
 have HF3 := am (And.intro hf1 (And.intro hc1 (And.intro hf2 (And.intro hc2 (And.intro hb3.size (blk_lt HS2.out.z))))))
 clear hb3 hf1 hc1 hf2 hc2
 clear xt x0 x1 x2 x3 x4 x5 x6 x7 q0 qf z0 z1 z2 z3 z4 z5 z6 z7 zf
 obtain ⟨xt, x0, x1, x2, x3, x4, x5, x6, x7⟩ := HS3.out.s.cells
 have q0 := blk_cell HS3.out.y 0
 have qf := blk_frozen HS3.out.y 0
 obtain ⟨z0, z1, z2, z3, z4, z5, z6, z7⟩ := cells8t HS3.out.z
 have zf := fun k => blk_frozen HS3.out.z k
 go_upto_region 4 with (fail)
 have HB4 := am (show Below w3.heap.size w3 (w3.alloc (mbox8 R A2 c2 33)) ∧ (w3.alloc (mbox8 R A2 c2 33)).heap[w3.heap.size]? = some (mbox8 R A2 c2 33) from ⟨(Below.refl _ w3).alloc (Nat.le_refl _) _, blk_newest w3 _⟩)
 generalize hw4 : World.alloc w3 _ = w4 at HB4 ⊢
 have HB4 := am (show Below w3.heap.size w3 w4 ∧ w4.heap[w3.heap.size]? = some (mbox8 R A2 c2 33) from HB4.out)
 clear hw4
 have HS4 := am (HS3.out.below HB4.out.1)
 clear xt x0 x1 x2 x3 x4 x5 x6 x7 q0 qf z0 z1 z2 z3 z4 z5 z6 z7 zf
 go_wp2_with fail
 refine (HT2.out w4 A1 c1 (Kd.F_now (Kd.F_below HF3.out.1 HB4.out.1)) HF3.out.2.1).mono ?_
 rintro e w5 ⟨rfl, hb5⟩
 have HS5 := am (HS4.out.below hb5)
 have HR5 := am (And.intro (below_step HB4.out.1 hb5) (blk_below HB4.out.2 hb5))
 clear hb5
 obtain ⟨xt, x0, x1, x2, x3, x4, x5, x6, x7⟩ := HS5.out.s.cells
 have q0 := blk_cell HS5.out.y 0
 have qf := blk_frozen HS5.out.y 0
 obtain ⟨z0, z1, z2, z3, z4, z5, z6, z7⟩ := cells8t HS5.out.z
 have zf := fun k => blk_frozen HS5.out.z k
 obtain ⟨n0, n1, n2, n3, n4, n5, n6, n7⟩ := cells8t HR5.out.2
 have HV := am (show (w5.setCell ⟨w.heap.size + 1 + 1, 0, none⟩ (.slice A1 out.length c1)).heap[w3.heap.size]? = some (mbox8 R A2 c2 33) from by
  obtain ⟨_, u2, _, _⟩ := set_block (j := 0) (v := .slice A1 out.length c1) rfl HS5.out.y
  exact (u2 _ (by have := HF3.out.2.2.2.2; omega)).trans HR5.out.2)
 obtain ⟨m0, m1, m2, m3, m4, m5, m6, m7⟩ := cells8t HV.out
 go_upto_region 8 with (fail)
 go_region
 all_goals
  clear m0 m1 m2 m3 m4 m5 m6 m7 HV
  clear xt x0 x1 x2 x3 x4 x5 x6 x7 q0 qf z0 z1 z2 z3 z4 z5 z6 z7 zf n0 n1 n2 n3 n4 n5 n6 n7
  generalize hw9 : World.setCell _ _ _ = w9
  obtain ⟨k1, k2, k3, k4, k5⟩ := two_boxes (F := R) HS5.out.y HS5.out.z (by omega) hw9.symm (n := out.length) (A := A1) (c := c1) (A3 := A2) (c3 := c2)
  have g0 := blk_cell k1 0
  obtain ⟨y0, y1, y2, y3, y4, y5, y6, y7⟩ := cells8t k2
  have hut := Tryz.underlying33
  have hutr := Tryz.underlying31
  have HZ := am (And.intro (k5 _ _ HS5.out.s.b (by omega) (by omega)) k3)
  clear k1 k2 k3 k4 k5 hw9
  go_wp2
  refine bodyPost_ret (v := .tuple #[.agg #[.slice A1 out.length c1], chv R A2 c2, .int .i64 0]) (by simp [results, Tryz.results10, go_sem, g0, y0, y1, y2, y3, y4, y5, y6, y7, hut, hutr]) rfl (show SDone _ _ _ _ _ _ from ?_)
  have hz := HF3.out.2.2.2.2
  have mv : ∀ {B : Option Addr} {xs : List S95}, Kd.F k95 w3 (fun k => w2.heap.size ≤ k) B xs.length xs → Kd.F k95 w9.drew (fun k => w.heap.size ≤ k) B xs.length xs := fun hf => Kd.F_mono (Kd.F_drew <| Kd.F_step (Kd.F_bound (Kd.F_below hf HR5.out.1)) (fun k hk _ => HZ.out.2 k (by omega) (by omega))) (fun k hk => by omega)
  exact ⟨A1, c1, A2, c2, rfl, mv HF3.out.1, HF3.out.2.1, mv HF3.out.2.2.1, HF3.out.2.2.2.1, below_drew1 HZ.out.1⟩
end Go.Proofs.YthjgohbkpjhkeaaGreatDoor.Impl
