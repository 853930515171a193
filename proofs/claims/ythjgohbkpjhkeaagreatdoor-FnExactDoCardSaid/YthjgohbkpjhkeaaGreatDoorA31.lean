/- Part 31 of the proof: DoSpecV, DoLawA, DoMarks, DoMarkW. -/
import Derived.Test.YthjgohbkpjhkeaaGreatDoorA29
import Derived.Test.YthjgohbkpjhkeaaGreatDoorA30
import Derived.Test.YthjgohbkpjhkeaaGreatDoorA11
import Derived.Test.YthjgohbkpjhkeaaGreatDoorA1
set_option linter.unusedVariables false
set_option linter.unusedSimpArgs false
namespace Go.Proofs.YthjgohbkpjhkeaaGreatDoor.Impl
open Go.RowKit Go.Proofs.YthjgohbkpjhkeaaGreatDoorW.PrintWords Go.Proofs.YthjgohbkpjhkeaaGreatDoorW.PrintLast Go.Proofs.YthjgohbkpjhkeaaGreatDoorW.PrintMore Go.Proofs.YthjgohbkpjhkeaaGreatDoor.PFnExactDo Go.Proofs.YthjgohbkpjhkeaaGreatDoor.MapLib Go.Proofs.YthjgohbkpjhkeaaGreatDoor.FireSpec Go.Proofs.YthjgohbkpjhkeaaGreatDoor.Tr
section
variable {ns what : List S95} {P j e k p : Nat} {n n' : S95} {C : Chg} {B : Nat}
theorem set_att (h : ∀ n ∈ ns, n.f3.length ≤ B) (h' : n'.f3.length ≤ B) : ∀ n ∈ ns.set j n', n.f3.length ≤ B := fun n hn => by
 rcases List.mem_or_eq_of_mem_set hn with h1 | rfl
 ·exact h n h1
 ·exact h'
theorem cut_att (h : ∀ n ∈ ns, n.f3.length ≤ B) : ∀ n ∈ cutN ns P j e, n.f3.length ≤ B := fun n hn => by
 obtain ⟨m, hm, h1, _⟩ := mem_cutN hn
 rw [h1]
 exact h m hm
theorem put_att (h : ∀ n ∈ ns, n.f3.length ≤ B) (h2 : ∀ n ∈ what, n.f3.length ≤ B) : ∀ n ∈ putN ns p k what, n.f3.length ≤ B := fun n hn => by
 unfold putN at hn
 rcases List.mem_append.1 hn with h1 | h1
 ·rcases modify_mem (List.mem_of_mem_take h1) with h3 | ⟨a, h3, rfl⟩
  ·exact h n h3
  ·exact h a h3
 ·rcases List.mem_append.1 h1 with h1 | h1
  ·exact h2 n h1
  ·exact h n (List.mem_of_mem_drop h1)
theorem getD_att (h : ∀ n ∈ ns, n.f3.length ≤ B) : (ns.getD j z95).f3.length ≤ B := by
 rw [List.getD_eq_getElem?_getD]
 cases hj : ns[j]? with
 | none => exact Nat.zero_le _
 | some n => exact h n (List.mem_of_getElem? hj)
theorem out_att (h : ∀ n ∈ ns, n.f3.length ≤ B) (hc : ∀ n ∈ C.f7, n.f3.length ≤ B) : ∀ n ∈ (actOut ns C).2, n.f3.length ≤ B + 1 := by
 have up : ∀ l : List S95, (∀ n ∈ l, n.f3.length ≤ B) → ∀ n ∈ l, n.f3.length ≤ B + 1 := fun l h n hn => by have := h n hn; omega
 have hg := fun j => getD_att (j := j) h
 unfold actOut
 split
 ·exact up _ (put_att h hc)
 split
 ·exact up _ (cut_att h)
 split
 ·exact up _ (put_att (cut_att h) (fun n hn => h n (List.mem_of_mem_take (List.mem_of_mem_drop hn))))
 split
 ·unfold outA
  simp only
  split
  ·refine up _ (set_att h ?_)
   show (List.set _ _ _).length ≤ B
   rw [List.length_set]
   exact hg _
  ·refine set_att (up _ h) ?_
   show (List.take _ _ ++ _ :: List.drop _ _).length ≤ B + 1
   simp only [List.length_append, List.length_take, List.length_cons, List.length_drop]
   have := hg (atOf ns C)
   omega
 split
 ·refine up _ (set_att h ?_)
  show (List.eraseIdx _ _).length ≤ B
  exact Nat.le_trans (List.length_eraseIdx_le _ _) (hg _)
 ·exact up _ (set_att h (hg _))
theorem goalCode_2 {pr : Nat → Option Nat} {x : Int} (h : goalCode ns pr C = some x) : x = 2 := by
 unfold goalCode at h
 repeat' (first | (split at h) | (cases h; done) | (cases h; rfl))
theorem elementCode_23 {x : Int} (h : elementCode ns C = some x) : x = 2 ∨ x = 3 := by
 unfold elementCode at h
 repeat' (first | (split at h) | (cases h; done) | (cases h; first | exact .inl rfl | exact .inr rfl))
theorem actCode_23 {x : Int} (h : actCode ns C = some x) : x = 2 ∨ x = 3 := by
 unfold actCode at h
 split at h
 ·unfold insertCode at h
  cases hg : goalCode ns (parOf (kids ns)) C with
  | some y => rw [hg] at h; injection h with h; exact .inl (by rw [← h]; exact goalCode_2 hg)
  | none =>
   rw [hg] at h
   simp only at h
   repeat' (first | (split at h) | (cases h; done) | (cases h; first | exact .inl rfl | exact .inr rfl))
 split at h
 ·unfold removeCode at h
  repeat' (first | (split at h) | (cases h; done) | (cases h; first | exact .inl rfl | exact .inr rfl))
 split at h
 ·unfold moveCode at h
  split at h
  ·cases h; exact .inl rfl
  cases hg : goalCode ns (parOf (kids ns)) C with
  | some y => rw [hg] at h; injection h with h; exact .inl (by rw [← h]; exact goalCode_2 hg)
  | none =>
   rw [hg] at h
   simp only at h
   repeat' (first | (split at h) | (cases h; done) | (cases h; first | exact .inl rfl | exact .inr rfl))
 split at h
 ·unfold attrCode at h
  cases hg : elementCode ns C with
  | some y => rw [hg] at h; injection h with h; rw [← h]; exact elementCode_23 hg
  | none =>
   rw [hg] at h
   simp only at h
   repeat' (first | (split at h) | (cases h; done) | (cases h; first | exact .inl rfl | exact .inr rfl))
 split at h
 ·unfold dropCode at h
  cases hg : elementCode ns C with
  | some y => rw [hg] at h; injection h with h; rw [← h]; exact elementCode_23 hg
  | none =>
   rw [hg] at h
   simp only at h
   repeat' (first | (split at h) | (cases h; done) | (cases h; first | exact .inl rfl | exact .inr rfl))
 split at h
 ·unfold textCode at h
  repeat' (first | (split at h) | (cases h; done) | (cases h; first | exact .inl rfl | exact .inr rfl))
 ·unfold noCode at h
  repeat' (first | (split at h) | (cases h; done) | (cases h; first | exact .inl rfl | exact .inr rfl))
end
theorem SpecIn.below {w W : World} {ns : List S95} {A0 : Option Addr} {c0 : Nat} {C : Chg} {A : Option Addr} {c : Nat} (h : SpecIn w ns A0 c0 C A c) (hb : Below w.heap.size w W) : SpecIn W ns A0 c0 C A c := ⟨Kd.C_below h.r hb, h.c0, h.a, Kd.C_below h.rC hb, h.cC, h.n, h.aC⟩
theorem specDo_calls {w : World} {ns : List S95} {A0 : Option Addr} {c0 : Nat} {C : Chg} {A : Option Addr} {c : Nat} (h : SpecIn w ns A0 c0 C A c) : Calls Tryz.prog 10 #[.agg #[.slice A0 ns.length c0], chv C A c] w (SDone w (doRes ns C).1 (doRes ns C).2.1 (doRes ns C).2.2) := by
 have hT : ∀ W, Below w.heap.size w W → Calls Tryz.prog 40 #[.agg #[.slice A0 ns.length c0]] W fun e w' => e = .returned (.bool (treeOk ns)) ∧ Below W.heap.size W w' := fun W hW => specTreeOk_calls ns A0 c0 W (Kd.C_below h.r hW) h.c0
 unfold doRes
 by_cases hok : treeOk ns = true
 ·rw [if_pos hok]
  have hD : ∀ W, Below w.heap.size w W → Calls Tryz.prog 41 #[.agg #[.slice A0 ns.length c0], chv C A c] W (DidEnd W (didRes ns C).1 (didRes ns C).2.1 (didRes ns C).2.2) := fun W hW => did_all (h.below hW) hok
  unfold didRes at hD
  cases hc : actCode ns C with
  | some x =>
   rw [hc] at hD
   exact udo_code w ns C A0 c0 A c _ hT _ _ _ hD hok (show x ≠ 0 from by rcases actCode_23 hc with h | h <;> omega)
  | none =>
   rw [hc] at hD
   have hT2 : ∀ W A1 c1, Kd.C k95 W A1 (actOut ns C).2.length (actOut ns C).2 → (actOut ns C).2.length ≤ c1 → Calls Tryz.prog 40 #[.agg #[.slice A1 (actOut ns C).2.length c1]] W fun e w' => e = .returned (.bool (treeOk (actOut ns C).2)) ∧ Below W.heap.size W w' := fun W A1 c1 hC hc1 => specTreeOk_calls _ A1 c1 W hC hc1
   simp only
   by_cases ho : treeOk (actOut ns C).2 = true
   ·rw [if_pos ho]
    exact udo_done w ns C A0 c0 A c _ hT _ _ _ hD _ hT2 hok rfl ho
   ·rw [if_neg ho]
    exact udo_four w ns C A0 c0 A c _ hT _ _ _ hD _ hT2 hok rfl (by simpa using ho)
 ·rw [if_neg hok]
  exact udo_not w ns C A0 c0 A c _ hT (by simpa using hok)
end Go.Proofs.YthjgohbkpjhkeaaGreatDoor.Impl
namespace Go.Proofs.YthjgohbkpjhkeaaGreatDoor.FireSpec
open Go.RowKit Go.Proofs.YthjgohbkpjhkeaaGreatDoorW.PrintWords Go.Proofs.YthjgohbkpjhkeaaGreatDoor.PFnExactDo Go.Proofs.YthjgohbkpjhkeaaGreatDoor.Tr
structure LChg where
 f0 : Int
 f1 : Int
 f2 : Int
 f3 : Int
 f4 : ByteArray
 f5 : ByteArray
 f6 : Int
 f7 : List LNode
def attrFit (a : LAttr) : Prop := a.f0.size ≤ 9223372036854775807 ∧ a.f1.size ≤ 9223372036854775807
def nodeFit (n : LNode) : Prop := n.f2.size ≤ 9223372036854775807 ∧ n.f4.size ≤ 9223372036854775807 ∧ n.f3.length ≤ 9223372036854775807 ∧ ∀ a ∈ n.f3, attrFit a
def chgFit (C : LChg) : Prop := C.f4.size ≤ 9223372036854775807 ∧ C.f5.size ≤ 9223372036854775807 ∧ C.f7.length ≤ 9223372036854775807 ∧ ∀ n ∈ C.f7, nodeFit n
def cpChg (C : LChg) : Impl.Chg := ⟨C.f0, C.f1, C.f2, C.f3, C.f4, C.f5, C.f6, C.f7.map cpNode⟩
theorem markText_f (n : Int) (h0 : 0 ≤ n) (h1 : n < 2 ^ 60) : ∃ r, Ev (fun k => laws_markText.f k n) r := ⟨_, Ev.done fun k => mtext_f (by omega) _⟩
def HeldA : List Attr → Int → Prop
 | [], _ => True
 | x :: r, a => Ev (fun k => laws_markText.f k a) x.f0 ∧ Ev (fun k => laws_markText.f k (a + 1)) x.f1 ∧ HeldA r (a + 1 + 1)
theorem held_marked : ∀ (xs : List Attr) (a : Int), 0 ≤ a → a + 2 * xs.length < 2 ^ 59 → HeldA (marked xs a) a
 | [], _, _, _ => trivial
 | _ :: r, a, h, hn => by
  simp only [List.length_cons] at hn
  exact ⟨Ev.done fun k => mtext_f (by omega) _, Ev.done fun k => mtext_f (by omega) _, held_marked r _ (by omega) (by omega)⟩
theorem markHeld_f (xs : List Attr) (a : Int) (h0 : 0 ≤ a) (hn : a + 2 * xs.length < 2 ^ 59) : ∃ zs, Ev (fun k => laws_markAttrS.f k xs a) (a + 2 * xs.length, zs) ∧ zs.length = xs.length ∧ HeldA zs a :=
 ⟨_, Ev.done fun k => if_pos ⟨h0, by omega⟩, marked_len xs a, held_marked xs a h0 hn⟩
end Go.Proofs.YthjgohbkpjhkeaaGreatDoor.FireSpec
namespace Go.Proofs.YthjgohbkpjhkeaaGreatDoor.Impl
open Go.RowKit Go.Proofs.YthjgohbkpjhkeaaGreatDoorW.PrintWords Go.Proofs.YthjgohbkpjhkeaaGreatDoorW.PrintLast Go.Proofs.YthjgohbkpjhkeaaGreatDoorW.PrintMore Go.Proofs.YthjgohbkpjhkeaaGreatDoor.PFnExactDo Go.Proofs.YthjgohbkpjhkeaaGreatDoor.MapLib Go.Proofs.YthjgohbkpjhkeaaGreatDoor.FireSpec Go.Proofs.YthjgohbkpjhkeaaGreatDoor.Tr
def HeldAt : List S95 → Int → Int → Prop
 | [], a, b => a = b
 | n :: r, a, b => n.f0 = a ∧ n.f1 = a + 1 ∧ FireSpec.Ev (fun k => laws_markText.f k (a + 2)) n.f2 ∧ FireSpec.HeldA n.f3 (a + 3) ∧ FireSpec.Ev (fun k => laws_markText.f k (a + 3 + 2 * n.f3.length)) n.f4 ∧ n.f5 = a + 4 + 2 * n.f3.length ∧ HeldAt r (a + 5 + 2 * n.f3.length) b
theorem HeldAt.append : ∀ {l r : List S95} {a m b : Int}, HeldAt l a m → HeldAt r m b → HeldAt (l ++ r) a b
 | [], r, a, m, b, h1, h2 => by
  have h1 : a = m := h1
  rw [h1]
  exact h2
 | n :: l, r, a, m, b, h1, h2 => ⟨h1.1, h1.2.1, h1.2.2.1, h1.2.2.2.1, h1.2.2.2.2.1, h1.2.2.2.2.2.1, HeldAt.append h1.2.2.2.2.2.2 h2⟩
def cost (xs : List S95) : Nat := (xs.map (fun x => 5 + 2 * x.f3.length)).sum
theorem cost_append (xs ys : List S95) : cost (xs ++ ys) = cost xs + cost ys := by simp [cost]
theorem cost_take (xs : List S95) (i : Nat) (hi : i < xs.length) : cost (xs.take (i + 1)) = cost (xs.take i) + (5 + 2 * (xs.getD i z95).f3.length) := by
 rw [List.take_succ_eq_append_getElem hi, cost_append, List.getD_eq_getElem?_getD, List.getElem?_eq_getElem hi]
 simp [cost]
theorem cost_le (xs : List S95) (i : Nat) : cost (xs.take i) ≤ cost xs := by
 have h := cost_append (xs.take i) (xs.drop i)
 rw [List.take_append_drop] at h
 omega
theorem len_cost : ∀ xs : List S95, xs.length ≤ cost xs
 | [] => by simp
 | x :: xs => by
  have h := len_cost xs
  have e : cost (x :: xs) = (5 + 2 * x.f3.length) + cost xs := by simp [cost]
  rw [e, List.length_cons]
  omega
theorem HeldAt.cost : ∀ {l : List S95} {a b : Int}, HeldAt l a b → b = a + cost l
 | [], a, b, h => by
  have h : a = b := h
  simp [Impl.cost, h]
 | n :: l, a, b, h => by
  have := HeldAt.cost h.2.2.2.2.2.2
  have e : Impl.cost (n :: l) = (5 + 2 * n.f3.length) + Impl.cost l := by simp [Impl.cost]
  rw [e]
  omega
structure NR (w : World) (base : Nat) (ok : Nat → Prop) (g n cap : Nat) (xs : List S95) (i : Nat) (oki : Nat → Prop) (f0 f1 : Int) (f2 : ByteArray) (v3 : Value) (f4 : ByteArray) (f5 : Int) (ys : List S149) : Prop where
 h : Kd.H k95 95 w base ok (.slice (some ⟨g, 0, none⟩) n cap) xs (i : Int) oki [.int .i64 f0, .int .i64 f1, .string f2, v3, .string f4, .int .i64 f5]
 r : Kd.R k149 149 w base oki v3 ys
 o : ∀ k, oki k → ok k ∧ k ≠ g
 i : i < n
section
variable {w w1 : World} {base g n cap i : Nat} {ok oki : Nat → Prop} {xs : List S95} {f0 f1 f5 : Int} {f2 f4 : ByteArray} {v3 : Value} {ys : List S149}
theorem NR.of (h : Kd.S k95 95 w base ok (.slice (some ⟨g, 0, none⟩) n cap) xs) (hi : i < xs.length) : ∃ oki v3, NR w base ok g n cap xs i oki (xs.getD i z95).f0 (xs.getD i z95).f1 (xs.getD i z95).f2 v3 (xs.getD i z95).f4 (xs.getD i z95).f5 (xs.getD i z95).f3 := by
 have hn := (Kd.S_reads' h).1
 obtain ⟨oki, c, hcl, hM, hcc, hfr, hoki, hH⟩ := Kd.S_elem h z95 (i : Int) (by omega) (by omega)
 obtain ⟨v3, rfl, hR⟩ := k95_openM hM
 exact ⟨oki, v3, hH, hR, hoki, by omega⟩
theorem NR.cells (h : NR w base ok g n cap xs i oki f0 f1 f2 v3 f4 f5 ys) : w.cell? ⟨g, i * 6, none⟩ = some (.int .i64 f0) ∧ w.cell? ⟨g, i * 6 + 1, none⟩ = some (.int .i64 f1) ∧ w.cell? ⟨g, i * 6 + 2, none⟩ = some (.string f2) ∧ w.cell? ⟨g, i * 6 + 3, none⟩ = some v3 ∧ w.cell? ⟨g, i * 6 + 4, none⟩ = some (.string f4) ∧ w.cell? ⟨g, i * 6 + 5, none⟩ = some (.int .i64 f5) := by
 obtain ⟨h1, _⟩ := Kd.H_at h.h (by omega) (by have := h.i; omega)
 simp only [Int.toNat_natCast] at h1
 exact ⟨h1 0 _ rfl, h1 1 _ rfl, h1 2 _ rfl, h1 3 _ rfl, h1 4 _ rfl, h1 5 _ rfl⟩
theorem NR.frozen (h : NR w base ok g n cap xs i oki f0 f1 f2 v3 f4 f5 ys) (j : Nat) : w.frozen? ⟨g, i * 6 + j, none⟩ = false := by
 obtain ⟨_, h2⟩ := Kd.H_at h.h (by omega) (by have := h.i; omega)
 simp only [Int.toNat_natCast] at h2
 exact h2 j
theorem NR.below (h : NR w base ok g n cap xs i oki f0 f1 f2 v3 f4 f5 ys) (hb : Below w.heap.size w w1) : NR w1 base ok g n cap xs i oki f0 f1 f2 v3 f4 f5 ys := ⟨Kd.H_below h.h hb, Kd.R_below h.r hb, h.o, h.i⟩
theorem NR.set (h : NR w base ok g n cap xs i oki f0 f1 f2 v3 f4 f5 ys) (j : Nat) (u : Value) (hj : j + 1 ≤ 6) (hu : u.oneCell' = true) (hw : w1 = w.setCell ⟨g, i * 6 + j, none⟩ u) :
  Kd.H k95 95 w1 base ok (.slice (some ⟨g, 0, none⟩) n cap) xs (i : Int) oki ([Value.int .i64 f0, .int .i64 f1, .string f2, v3, .string f4, .int .i64 f5].take j ++ [u] ++ [Value.int .i64 f0, .int .i64 f1, .string f2, v3, .string f4, .int .i64 f5].drop (j + 1)) ∧ Kd.R k149 149 w1 base oki v3 ys ∧ Kept w w1 (fun k => k = g) := by
 obtain ⟨h1, h2⟩ := Kd.H_seg h.h (by omega) (by have := h.i; omega) (seg := [u]) (j := j) hj (by simpa using hu)
 simp only [Int.toNat_natCast] at h1 h2
 subst hw
 exact ⟨h1, Kd.R_grown h.r h2 (fun k hk e => (h.o k hk).2 (by injection e)), ⟨h2.size, fun k hk hn => h2.block k hk (fun e => hn (by injection e))⟩⟩
theorem NR.set0 (h : NR w base ok g n cap xs i oki f0 f1 f2 v3 f4 f5 ys) (x : Int) (hw : w1 = w.setCell ⟨g, i * 6, none⟩ (.int .i64 x)) : NR w1 base ok g n cap xs i oki x f1 f2 v3 f4 f5 ys ∧ Kept w w1 (fun k => k = g) := by
 obtain ⟨h1, h2, h3⟩ := h.set 0 (.int .i64 x) (by decide) rfl hw
 exact ⟨⟨h1, h2, h.o, h.i⟩, h3⟩
theorem NR.set1 (h : NR w base ok g n cap xs i oki f0 f1 f2 v3 f4 f5 ys) (x : Int) (hw : w1 = w.setCell ⟨g, i * 6 + 1, none⟩ (.int .i64 x)) : NR w1 base ok g n cap xs i oki f0 x f2 v3 f4 f5 ys ∧ Kept w w1 (fun k => k = g) := by
 obtain ⟨h1, h2, h3⟩ := h.set 1 (.int .i64 x) (by decide) rfl hw
 exact ⟨⟨h1, h2, h.o, h.i⟩, h3⟩
theorem NR.set2 (h : NR w base ok g n cap xs i oki f0 f1 f2 v3 f4 f5 ys) (x : ByteArray) (hw : w1 = w.setCell ⟨g, i * 6 + 2, none⟩ (.string x)) : NR w1 base ok g n cap xs i oki f0 f1 x v3 f4 f5 ys ∧ Kept w w1 (fun k => k = g) := by
 obtain ⟨h1, h2, h3⟩ := h.set 2 (.string x) (by decide) rfl hw
 exact ⟨⟨h1, h2, h.o, h.i⟩, h3⟩
theorem NR.set4 (h : NR w base ok g n cap xs i oki f0 f1 f2 v3 f4 f5 ys) (x : ByteArray) (hw : w1 = w.setCell ⟨g, i * 6 + 4, none⟩ (.string x)) : NR w1 base ok g n cap xs i oki f0 f1 f2 v3 x f5 ys ∧ Kept w w1 (fun k => k = g) := by
 obtain ⟨h1, h2, h3⟩ := h.set 4 (.string x) (by decide) rfl hw
 exact ⟨⟨h1, h2, h.o, h.i⟩, h3⟩
theorem NR.set5 (h : NR w base ok g n cap xs i oki f0 f1 f2 v3 f4 f5 ys) (x : Int) (hw : w1 = w.setCell ⟨g, i * 6 + 5, none⟩ (.int .i64 x)) : NR w1 base ok g n cap xs i oki f0 f1 f2 v3 f4 x ys ∧ Kept w w1 (fun k => k = g) := by
 obtain ⟨h1, h2, h3⟩ := h.set 5 (.int .i64 x) (by decide) rfl hw
 exact ⟨⟨h1, h2, h.o, h.i⟩, h3⟩
theorem NR.attrs (h : NR w base ok g n cap xs i oki f0 f1 f2 v3 f4 f5 ys) {zs : List S149} {ok' : Nat → Prop} (hk : Kept w w1 oki) (hR : Kd.R k149 149 w1 base ok' v3 zs) : NR w1 base ok g n cap xs i oki f0 f1 f2 v3 f4 f5 zs :=
 ⟨Kd.H_kept h.h hk (fun _ _ hn => hn), Kd.R_mono (Kd.R_tight rfl hR) (fun k hk => h.r.1 k hk.symm), h.o, h.i⟩
theorem NR.done (h : NR w base ok g n cap xs i oki f0 f1 f2 v3 f4 f5 ys) : Kd.S k95 95 w base ok (.slice (some ⟨g, 0, none⟩) n cap) (xs.set i ⟨f0, f1, f2, ys, f4, f5⟩) := by
 have := Kd.H_back h.h (x' := ⟨f0, f1, f2, ys, f4, f5⟩) (k95_mkM _ _ _ (⟨f0, f1, f2, ys, f4, f5⟩ : S95) h.r) (fun _ hk => hk)
 simpa only [Int.toNat_natCast] using this
end
end Go.Proofs.YthjgohbkpjhkeaaGreatDoor.Impl
set_option maxHeartbeats 4000000
set_option maxRecDepth 100000
namespace Go.Proofs.YthjgohbkpjhkeaaGreatDoor.Impl
open Go.RowKit Go.Proofs.YthjgohbkpjhkeaaGreatDoorW.PrintWords Go.Proofs.YthjgohbkpjhkeaaGreatDoorW.PrintLast Go.Proofs.YthjgohbkpjhkeaaGreatDoorW.PrintMore Go.Proofs.YthjgohbkpjhkeaaGreatDoor.PFnExactDo Go.Proofs.YthjgohbkpjhkeaaGreatDoor.MapLib Go.Proofs.YthjgohbkpjhkeaaGreatDoor.FireSpec Go.Proofs.YthjgohbkpjhkeaaGreatDoor.Tr
def MarkedEnd (w0 w : World) (ok : Nat → Prop) (v : Value) (xs : List S95) (a : Int) (e : Ending) (w' : World) : Prop :=
 ∃ zs, e = .returned (.int .i64 (a + cost xs)) ∧ HeldAt zs a (a + cost xs) ∧ zs.length = xs.length ∧ Kd.S k95 95 w' w0.heap.size ok v zs ∧ Below w0.heap.size w0 w' ∧ Kept w w' ok
theorem mid_get {zs xs : List S95} {i : Nat} (hz : zs.length = i) : (zs ++ xs.drop i).getD i z95 = xs.getD i z95 := by
 rw [List.getD_eq_getElem?_getD, List.getElem?_append_right (by omega), hz, Nat.sub_self, List.getElem?_drop, Nat.add_zero, ← List.getD_eq_getElem?_getD]
theorem mid_set {zs xs : List S95} {i : Nat} (hz : zs.length = i) (hi : i < xs.length) (x : S95) : (zs ++ xs.drop i).set i x = (zs ++ [x]) ++ xs.drop (i + 1) := by
 rw [List.set_append_right _ _ (by omega), hz, Nat.sub_self, List.drop_eq_getElem_cons hi, List.set_cons_zero]
 simp
theorem markNodeS_calls (v : Value) (xs : List S95) (a : Int) (w0 w : World) (ok : Nat → Prop) (hB : Below w0.heap.size w0 w) (hS : Kd.S k95 95 w w0.heap.size ok v xs) (h0 : 0 ≤ a) (hb : a + cost xs < 2 ^ 58) :
  Calls Tryz.prog 46 #[v, .int .i64 a] w (MarkedEnd w0 w ok v xs a) := by
 have hu := Tryz.underlying95
 cases xs with
 | nil =>
  have HS := am hS
  obtain ⟨A, c, rfl⟩ := Kd.S_slice hS
  have HB := am hB
  clear hS hB
  go_enter Tryz.func46, Tryz.ntmps46
  go_wp2
  go_loopg [1, 5] 1 (fun kq v1 v5 wr => v1 = .int .i64 a ∧ v5 = .int .i64 0 ∧ wr = w)
  case atStart => exact ⟨rfl, rfl, rfl⟩
  case round =>
   obtain ⟨rfl, rfl, hw⟩ := hrel
   subst hw
   go_wp2
   go_ret
   exact ⟨[], by simp [cost], by simp [cost, HeldAt], rfl, HS.out, HB.out, Kept.refl _ _⟩
 | cons x0 xr =>
  obtain ⟨g, c, rfl, hg, hlt0, _⟩ := Kd.S_form hS (by simp)
  have hokg := Kd.S_own hS
  generalize hxs : x0 :: xr = xs at *
  have hgok : ok g := hS.choose_spec.1 g rfl
  have HX := am (And.intro hB (And.intro hS (And.intro hg (And.intro hgok (And.intro h0 hb)))))
  have hxl := len_cost xs
  have hxb : xs.length ≤ 288230376151711744 := by omega
  clear hxs hS hB hg hokg hgok hxl hlt0
  go_enter Tryz.func46, Tryz.ntmps46
  go_wp2
  go_loopg [1, 5] (xs.length + 1) (fun kq v1 v5 wr => ∃ (i : Nat) (m : Int) (zs : List S95), v1 = .int .i64 m ∧ v5 = .int .i64 i ∧ Aside0 (i + kq = xs.length + 1 ∧ i ≤ xs.length ∧ a ≤ m ∧ m = a + cost (xs.take i) ∧ zs.length = i ∧ HeldAt zs a m) ∧ Aside0 (Kd.S k95 95 wr w0.heap.size ok (.slice (some ⟨g, 0, none⟩) xs.length c) (zs ++ xs.drop i)) ∧ Aside0 (Below w0.heap.size w0 wr ∧ Kept w wr ok))
  case atStart => exact ⟨0, a, [], rfl, rfl, ⟨by omega, by omega, Int.le_refl _, by simp [cost], rfl, rfl⟩, ⟨HX.out.2.1⟩, ⟨HX.out.1, Kept.refl _ _⟩⟩
  case round =>
   obtain ⟨i, m, zs, rfl, rfl, HI, HM, HK⟩ := hrel
   by_cases hlt : i < xs.length
   ·have hd : decide ((i : Int) < (xs.length : Int)) = true := decide_eq_true (by omega)
    have hd2 : decide (i < xs.length) = true := decide_eq_true hlt
    have hi0 : (i : Int) < xs.length := by omega
    have hib : (i : Int) ≤ 288230376151711744 := by omega
    have hcl := cost_le xs i
    have hmb : a ≤ m ∧ m ≤ 288230376151711744 := by have h1 := HI.out; have h2 := HX.out.2.2.2.2.2; omega
    have hm0 : 0 ≤ m := by have := HX.out.2.2.2.2.1; omega
    have hmm := hmb.2
    obtain ⟨oki, v3, hN⟩ := NR.of HM.out (i := i) (by have := HI.out; simp; omega)
    rw [mid_get HI.out.2.2.2.2.1] at hN
    have HI2 := am hlt
    obtain ⟨nd, hnd⟩ : ∃ nd, xs.getD i z95 = nd := ⟨_, rfl⟩
    rw [hnd] at hN
    have HND := am hnd
    have HN0 := am hN
    have hx0 := hN.cells.1
    have hf0 := hN.frozen 0
    clear hlt hcl hmb hN hnd
    rw [Nat.add_zero] at hf0
    go_upto_region 5 with (fail)
    generalize hw1 : World.setCell wr _ _ = w1
    obtain ⟨hN1, hK1⟩ := HN0.out.set0 m hw1.symm
    have HN1 := am hN1
    have HK1 := am (And.intro (by rw [← hw1]; exact below_set HK.out.1 HX.out.2.2.1 : Below w0.heap.size w0 w1) (HK.out.2.then_ hK1 (fun k hk => .inl (by rw [hk]; exact HX.out.2.2.2.1))))
    have hx1 := hN1.cells.2.1
    have hf1 := hN1.frozen 1
    clear hw1 hN1 hK1 hx0 hf0 HK
    go_upto_region 7 with (fail)
    generalize hw2 : World.setCell w1 _ _ = w2
    obtain ⟨hN2, hK2⟩ := HN1.out.set1 (m + 1) hw2.symm
    have HN2 := am hN2
    have HK2 := am (And.intro (by rw [← hw2]; exact below_set HK1.out.1 HX.out.2.2.1 : Below w0.heap.size w0 w2) (HK1.out.2.then_ hK2 (fun k hk => .inl (by rw [hk]; exact HX.out.2.2.2.1))))
    clear hw2 hN2 hK2 hx1 hf1 HK1 HN1
    obtain ⟨t1, ht1⟩ := markText_f (m + 1 + 1) (by omega) (by omega)
    obtain ⟨kt1, hkt1⟩ := ht1.some
    have HT1 := am (And.intro hkt1 ht1)
    clear ht1 hkt1
    go_upto_region 9 with (first | (go_at_call 54; refine (laws_markText.calls kt1 (m + 1 + 1) t1 _ HT1.out.1).mono ?_; rintro e w3 ⟨rfl, hb3⟩; have HN3 := am (HN2.out.below hb3); have HK3 := am (And.intro (below_step HK2.out.1 hb3) (HK2.out.2.below hb3)); have hx3 := HN3.out.cells.2.2.1; have hf3 := HN3.out.frozen 2; clear hb3))
    generalize hw4 : World.setCell w3 _ _ = w4
    obtain ⟨hN4, hK4⟩ := HN3.out.set2 t1 hw4.symm
    have HN4 := am hN4
    have HK4 := am (And.intro (by rw [← hw4]; exact below_set HK3.out.1 HX.out.2.2.1 : Below w0.heap.size w0 w4) (HK3.out.2.then_ hK4 (fun k hk => .inl (by rw [hk]; exact HX.out.2.2.2.1))))
    have hx4 := hN4.cells.2.2.2.1
    have hcst := cost_take xs i HI2.out
    have hctl := cost_le xs (i + 1)
    rw [HND.out] at hcst
    have hyb : m + 3 + 2 * nd.f3.length + 2 = a + cost (xs.take (i + 1)) ∧ a + cost (xs.take (i + 1)) ≤ 288230376151711744 := by
     have h1 := HI.out; have h2 := HX.out.2.2.2.2.2; omega
    obtain ⟨ys, hz, hzl, hzh⟩ := markHeld_f nd.f3 (m + 1 + 1 + 1) (by omega) (by omega)
    obtain ⟨kz, hkz⟩ := hz.some
    have HZ := am (And.intro hkz (And.intro hzl hzh))
    have HYB := am hyb
    obtain ⟨Av, cv, ev⟩ := Kd.R_slice hN4.r
    have HEV := am ev
    rw [ev] at hx4
    clear hw4 hN4 hK4 hx3 hf3 HK3 HN2 HK2 HN3 hz hkz hzl hzh hcst hctl hyb ev
    go_upto_region 11 with (first | (go_at_call 80; rw [← HEV.out]; refine (laws_markAttrS.calls kz _ v3 nd.f3 (m + 1 + 1 + 1) _ ys w0 w4 HK4.out.1 HN4.out.r HZ.out.1).mono ?_; rintro e w5 ⟨rfl, hR5, hb5, hk5⟩; have HN5 := am (HN4.out.attrs hk5 hR5); have HK5 := am (And.intro hb5 (HK4.out.2.then_ hk5 (fun k hk => .inl (HN4.out.o k hk).1))); clear hR5 hb5 hk5))
    generalize hm5 : m + 1 + 1 + 1 + 2 * (nd.f3.length : Int) = m5
    have hm5b : a ≤ m5 ∧ 0 ≤ m5 ∧ m5 ≤ 288230376151711744 ∧ m5 + 2 = a + cost (xs.take (i + 1)) ∧ m5 = m + 3 + 2 * nd.f3.length := by have h1 := HYB.out; have h2 := HI.out; omega
    obtain ⟨hm50, hm51, hm52, hm53, hm54⟩ := hm5b
    have HM5B := am (And.intro hm50 (And.intro hm53 hm54))
    obtain ⟨t2, ht2⟩ := markText_f m5 (by omega) (by omega)
    obtain ⟨kt2, hkt2⟩ := ht2.some
    have HT2 := am (And.intro hkt2 ht2)
    clear ht2 hkt2 hx4 HN4 HK4 hm50 hm53 hm54 hm5
    go_upto_region 12 with (first | (go_at_call 54; refine (laws_markText.calls kt2 m5 t2 _ HT2.out.1).mono ?_; rintro e w6 ⟨rfl, hb6⟩; have HN6 := am (HN5.out.below hb6); have HK6 := am (And.intro (below_step HK5.out.1 hb6) (HK5.out.2.below hb6)); have hx6 := HN6.out.cells.2.2.2.2.1; have hf6 := HN6.out.frozen 4; clear hb6))
    generalize hw7 : World.setCell w6 _ _ = w7
    obtain ⟨hN7, hK7⟩ := HN6.out.set4 t2 hw7.symm
    have HN7 := am hN7
    have HK7 := am (And.intro (by rw [← hw7]; exact below_set HK6.out.1 HX.out.2.2.1 : Below w0.heap.size w0 w7) (HK6.out.2.then_ hK7 (fun k hk => .inl (by rw [hk]; exact HX.out.2.2.2.1))))
    have hx7 := hN7.cells.2.2.2.2.2
    have hf7 := hN7.frozen 5
    clear hw7 hN7 hK7 hx6 hf6 HK6 HN5 HK5 HN6
    go_upto_region 14 with (fail)
    generalize hw8 : World.setCell w7 _ _ = w8
    obtain ⟨hN8, hK8⟩ := HN7.out.set5 (m5 + 1) hw8.symm
    have HK8 := am (And.intro (by rw [← hw8]; exact below_set HK7.out.1 HX.out.2.2.1 : Below w0.heap.size w0 w8) (HK7.out.2.then_ hK8 (fun k hk => .inl (by rw [hk]; exact HX.out.2.2.2.1))))
    have hS8 := hN8.done
    rw [mid_set HI.out.2.2.2.2.1 HI2.out] at hS8
    have HM8 := am hS8
    have HI3 := am (show i + 1 + (gk - 1) = xs.length + 1 ∧ 0 < gk by have := HI.out; have := HI2.out; omega)
    clear hw8 hN8 hK8 hx7 hf7 HN7 HK7 hS8
    go_wp2
    have hii : (i : Int) + 1 = ((i + 1 : Nat) : Int) := by omega
    go_roundg (gk - 1)
    case measure => have := HI3.out; omega
    case rel =>
     refine ⟨i + 1, _, zs ++ [⟨m, m + 1, t1, ys, t2, m5 + 1⟩], rfl, by rw [hii], ⟨HI3.out.1, HI2.out, by have := HM5B.out.1; omega, by have := HM5B.out.2.1; omega, by have := HI.out.2.2.2.2.1; simp; omega, ?_⟩, HM8, HK8⟩
     refine HI.out.2.2.2.2.2.append ?_
     have e1 : (m5 : Int) = m + 3 + 2 * ys.length := by rw [HZ.out.2.1]; exact HM5B.out.2.2
     have hz2 := HZ.out.2.2
     refine ⟨rfl, rfl, ?_, ?_, ?_, ?_, ?_⟩
     ·have := HT1.out.2
      rw [show m + 1 + 1 = m + 2 from by omega] at this
      exact this
     ·rw [show m + 1 + 1 + 1 = m + 3 from by omega] at hz2
      exact hz2
     ·have := HT2.out.2
      rw [e1] at this
      exact this
     ·show m5 + 1 = m + 4 + 2 * (ys.length : Int)
      omega
     ·show m + 5 + 2 * (ys.length : Int) = _
      omega
   ·have hd : decide ((i : Int) < (xs.length : Int)) = false := decide_eq_false (by omega)
    have hd2 : decide (i < xs.length) = false := decide_eq_false hlt
    clear hlt
    go_wp2
    go_ret
    have hi : i = xs.length := by have := HI.out; simp at hd2; omega
    have h3 := HI.out.2.2.2
    have hm := HM.out
    rw [hi, List.take_length] at h3
    rw [hi, List.drop_length, List.append_nil] at hm
    obtain ⟨h4, h5, h6⟩ := h3
    exact ⟨zs, by rw [← h4]; rfl, by rw [← h4]; exact h6, h5, hm, HK.out.1, HK.out.2⟩
theorem markTree_calls (v : Value) (xs : List S95) (a : Int) (w0 w : World) (ok : Nat → Prop) (hB : Below w0.heap.size w0 w) (hS : Kd.S k95 95 w w0.heap.size ok v xs) (h0 : 0 ≤ a) (hb : a + cost xs < 2 ^ 58) :
  Calls Tryz.prog 16 #[.agg #[v], .int .i64 a] w (MarkedEnd w0 w ok v xs a) := by
 have hut := Tryz.underlying31
 obtain ⟨A, c, rfl⟩ := Kd.S_slice hS
 have hal : Below w.heap.size w (w.alloc (Obj.cells #[.slice A xs.length c] 31)) := (Below.refl _ _).alloc (Nat.le_refl _) _
 have HC := am (markNodeS_calls _ xs a w0 _ ok (below_step hB hal) (Kd.S_below hS hal) h0 hb)
 have HAL := am hal
 clear hB hS h0 hb hal
 go_enter Tryz.func16, Tryz.ntmps16
 go_wp2_with (first | (go_at_call 46; refine HC.out.mono ?_; rintro e w5 ⟨zs, rfl, h1, h2, h3, h4, h5⟩; have HE := am (And.intro h1 (And.intro h2 (And.intro h3 (And.intro h4 h5)))); clear h1 h2 h3 h4 h5))
 go_ret
 exact ⟨zs, rfl, HE.out.1, HE.out.2.1, HE.out.2.2.1, HE.out.2.2.2.1, (Kept.of_below HAL.out ok).then_ HE.out.2.2.2.2 (fun k hk => .inl hk)⟩
theorem markChange_calls (C : Chg) (A : Option Addr) (c : Nat) (a : Int) (w0 w : World) (ok : Nat → Prop) (hB : Below w0.heap.size w0 w) (hS : Kd.S k95 95 w w0.heap.size ok (.slice A C.f7.length c) C.f7) (h0 : 0 ≤ a) (hb : a + cost C.f7 < 2 ^ 58) :
  Calls Tryz.prog 17 #[chv C A c, .int .i64 a] w (MarkedEnd w0 w ok (.slice A C.f7.length c) C.f7 a) := by
 have hut := Tryz.underlying33
 have hal : Below w.heap.size w (w.alloc (mbox8 C A c 33)) := (Below.refl _ _).alloc (Nat.le_refl _) _
 have HC := am (markNodeS_calls _ C.f7 a w0 _ ok (below_step hB hal) (Kd.S_below hS hal) h0 hb)
 have HAL := am hal
 clear hB hS h0 hb hal
 go_enter Tryz.func17, Tryz.ntmps17
 go_wp2_with (first | (go_at_call 46; refine HC.out.mono ?_; rintro e w5 ⟨zs, rfl, h1, h2, h3, h4, h5⟩; have HE := am (And.intro h1 (And.intro h2 (And.intro h3 (And.intro h4 h5)))); clear h1 h2 h3 h4 h5))
 go_ret
 exact ⟨zs, rfl, HE.out.1, HE.out.2.1, HE.out.2.2.1, HE.out.2.2.2.1, (Kept.of_below HAL.out ok).then_ HE.out.2.2.2.2 (fun k hk => .inl hk)⟩
end Go.Proofs.YthjgohbkpjhkeaaGreatDoor.Impl
