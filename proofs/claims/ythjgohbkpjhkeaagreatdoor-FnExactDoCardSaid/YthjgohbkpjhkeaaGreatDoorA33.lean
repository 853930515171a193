/- Part 33 of the proof: DoLawN, DoLawK. -/
import Derived.Test.YthjgohbkpjhkeaaGreatDoorA32
set_option linter.unusedVariables false
set_option linter.unusedSimpArgs false
namespace Go.Proofs.YthjgohbkpjhkeaaGreatDoor.Impl
open Go.RowKit Go.Proofs.YthjgohbkpjhkeaaGreatDoorW.PrintWords Go.Proofs.YthjgohbkpjhkeaaGreatDoorW.PrintLast Go.Proofs.YthjgohbkpjhkeaaGreatDoorW.PrintMore Go.Proofs.YthjgohbkpjhkeaaGreatDoor.PFnExactDo Go.Proofs.YthjgohbkpjhkeaaGreatDoor.MapLib Go.Proofs.YthjgohbkpjhkeaaGreatDoor.FireSpec Go.Proofs.YthjgohbkpjhkeaaGreatDoor.Tr
def LawEnd (w : World) (e : Ending) (w' : World) : Prop := e = .returned (.bool true) ∧ Below w.heap.size w w'
abbrev Cp (W w' : World) (A1 : Option Addr) (c1 : Nat) (l : List S95) : Prop := Kd.S k95 95 w' W.heap.size (fun k => k < w'.heap.size) (.slice A1 l.length c1) l ∧ Below W.heap.size W w'
def TreeIs (w : World) (A : Option Addr) (n c : Nat) (cp : List S95) : Prop := ∀ W, Below w.heap.size w W → Calls Tryz.prog 11 #[.agg #[.slice A n c]] W fun e w' => ∃ A1 c1, e = .returned (.agg #[.slice A1 cp.length c1]) ∧ Cp W w' A1 c1 cp
def ChgIs (w : World) (C : LChg) (A : Option Addr) (c : Nat) (D : Chg) : Prop := ∀ W, Below w.heap.size w W → Calls Tryz.prog 12 #[chvL C A c] W fun e w' => ∃ A1 c1, e = .returned (chv D A1 c1) ∧ Cp W w' A1 c1 D.f7
def SpecIs (w : World) (f : FuncId) (cp : List S95) (D : Chg) (L : List S95) (R : Chg) (code : Int) : Prop := ∀ W A1 c1 A2 c2, Below w.heap.size w W → Kd.C k95 W A1 cp.length cp → cp.length ≤ c1 → Kd.C k95 W A2 D.f7.length D.f7 → D.f7.length ≤ c2 → Calls Tryz.prog f #[.agg #[.slice A1 cp.length c1], chv D A2 c2] W (SDone W L R code)
structure Ref (w2 W : World) (b6 b7 : Nat) (A6 : Option Addr) (c6 : Nat) (A7 : Option Addr) (c7 : Nat) (L : List S95) (R : Chg) : Prop where
 b : Below w2.heap.size w2 W
 x : W.heap[b6]? = some (boxT L.length A6 c6)
 y : W.heap[b7]? = some (mbox8 R A7 c7 33)
 x0 : w2.heap.size ≤ b6
 y0 : w2.heap.size ≤ b7
 r : Kd.F k95 W (fun k => w2.heap.size ≤ k ∧ k < W.heap.size) A6 L.length L
 rc : L.length ≤ c6
 s : Kd.F k95 W (fun k => w2.heap.size ≤ k ∧ k < W.heap.size) A7 R.f7.length R.f7
 sc : R.f7.length ≤ c7
structure Sg where
 A1 : Option Addr
 c1 : Nat
 A2 : Option Addr
 c2 : Nat
 A6 : Option Addr
 c6 : Nat
 A7 : Option Addr
 c7 : Nat
 b6 : Nat
 b7 : Nat
structure NF (w3 : World) (cp : List S95) (D : Chg) (L : List S95) (R : Chg) (k : Nat) (x y : Bool) (s : Sg) (W : World) : Prop where
 b : Below w3.heap.size w3 W
 f1 : 1 ≤ k → Kd.C k95 W s.A1 cp.length cp ∧ cp.length ≤ s.c1
 f2 : 2 ≤ k → Kd.C k95 W s.A2 D.f7.length D.f7 ∧ D.f7.length ≤ s.c2
 f6 : 3 ≤ k → Kd.F k95 W (fun q => w3.heap.size ≤ q ∧ (x = true → q ≠ s.b6) ∧ (y = true → q ≠ s.b7)) s.A6 L.length L ∧ L.length ≤ s.c6 ∧ Kd.F k95 W (fun q => w3.heap.size ≤ q ∧ (x = true → q ≠ s.b6) ∧ (y = true → q ≠ s.b7)) s.A7 R.f7.length R.f7 ∧ R.f7.length ≤ s.c7
 hx : x = true → W.heap[s.b6]? = some (boxT 0 none 0) ∧ w3.heap.size ≤ s.b6
 hy : y = true → W.heap[s.b7]? = some (mbox8 zC none 0 33) ∧ w3.heap.size ≤ s.b7
 xy : x = true → y = true → s.b6 ≠ s.b7
section
variable {w3 W W1 : World} {cp L : List S95} {D R : Chg} {k : Nat} {x y : Bool} {s : Sg}
theorem NF.start (s : Sg) : NF w3 cp D L R 0 false false s w3.drew :=
 ⟨(Below.refl _ _).drew, fun h => by omega, fun h => by omega, fun h => by omega, fun h => (by cases h), fun h => (by cases h), fun h => (by cases h)⟩
theorem NF.allocX (h : NF w3 cp D L R k false y s W) {g : Nat} (hg : g = W.heap.size) (hbox : W1.heap[g]? = some (boxT 0 none 0)) (hb : Below W.heap.size W W1) : NF w3 cp D L R k true y { s with b6 := g } W1 :=
 ⟨below_step h.b hb, fun hk => ⟨Kd.C_below (h.f1 hk).1 hb, (h.f1 hk).2⟩, fun hk => ⟨Kd.C_below (h.f2 hk).1 hb, (h.f2 hk).2⟩,
  fun hk => ⟨Kd.F_mono (Kd.F_below (Kd.F_bound (h.f6 hk).1) hb) (fun q hq => ⟨hq.1.1, fun _ e => by have h2 := hq.2; have h3 : q = g := e; omega, hq.1.2.2⟩), (h.f6 hk).2.1, Kd.F_mono (Kd.F_below (Kd.F_bound (h.f6 hk).2.2.1) hb) (fun q hq => ⟨hq.1.1, fun _ e => by have h2 := hq.2; have h3 : q = g := e; omega, hq.1.2.2⟩), (h.f6 hk).2.2.2⟩,
  fun _ => ⟨hbox, by have := h.b.size; show w3.heap.size ≤ g; omega⟩, fun hy => ⟨blk_below (h.hy hy).1 hb, (h.hy hy).2⟩, fun _ hy e => by have h2 := blk_lt (h.hy hy).1; have h3 : g = s.b7 := e; omega⟩
theorem NF.allocY (h : NF w3 cp D L R k x false s W) {g : Nat} (hg : g = W.heap.size) (hbox : W1.heap[g]? = some (mbox8 zC none 0 33)) (hb : Below W.heap.size W W1) : NF w3 cp D L R k x true { s with b7 := g } W1 :=
 ⟨below_step h.b hb, fun hk => ⟨Kd.C_below (h.f1 hk).1 hb, (h.f1 hk).2⟩, fun hk => ⟨Kd.C_below (h.f2 hk).1 hb, (h.f2 hk).2⟩,
  fun hk => ⟨Kd.F_mono (Kd.F_below (Kd.F_bound (h.f6 hk).1) hb) (fun q hq => ⟨hq.1.1, hq.1.2.1, fun _ e => by have h2 := hq.2; have h3 : q = g := e; omega⟩), (h.f6 hk).2.1, Kd.F_mono (Kd.F_below (Kd.F_bound (h.f6 hk).2.2.1) hb) (fun q hq => ⟨hq.1.1, hq.1.2.1, fun _ e => by have h2 := hq.2; have h3 : q = g := e; omega⟩), (h.f6 hk).2.2.2⟩,
  fun hx => ⟨blk_below (h.hx hx).1 hb, (h.hx hx).2⟩, fun _ => ⟨hbox, by have := h.b.size; show w3.heap.size ≤ g; omega⟩, fun hx _ e => by have h2 := blk_lt (h.hx hx).1; have h3 : s.b6 = g := e; omega⟩
theorem NF.one (h : NF w3 cp D L R 0 x y s W) {A1 : Option Addr} {c1 : Nat} (hc : Cp W W1 A1 c1 cp) : NF w3 cp D L R 1 x y { s with A1 := A1, c1 := c1 } W1 :=
 ⟨below_step h.b hc.2, fun _ => ⟨(Kd.S_reads' hc.1).2.2, (Kd.S_reads' hc.1).2.1⟩, fun hk => by omega, fun hk => by omega, fun hx => ⟨blk_below (h.hx hx).1 hc.2, (h.hx hx).2⟩, fun hy => ⟨blk_below (h.hy hy).1 hc.2, (h.hy hy).2⟩, h.xy⟩
theorem NF.two (h : NF w3 cp D L R 1 x y s W) {A2 : Option Addr} {c2 : Nat} (hc : Cp W W1 A2 c2 D.f7) : NF w3 cp D L R 2 x y { s with A2 := A2, c2 := c2 } W1 :=
 ⟨below_step h.b hc.2, fun _ => ⟨Kd.C_below (h.f1 (Nat.le_refl _)).1 hc.2, (h.f1 (Nat.le_refl _)).2⟩, fun _ => ⟨(Kd.S_reads' hc.1).2.2, (Kd.S_reads' hc.1).2.1⟩, fun hk => by omega, fun hx => ⟨blk_below (h.hx hx).1 hc.2, (h.hx hx).2⟩, fun hy => ⟨blk_below (h.hy hy).1 hc.2, (h.hy hy).2⟩, h.xy⟩
theorem NF.three (h : NF w3 cp D L R 2 x y s W) {A6 : Option Addr} {c6 : Nat} {A7 : Option Addr} {c7 : Nat} (hf6 : Kd.F k95 W1 (fun k => W.heap.size ≤ k) A6 L.length L) (hc6 : L.length ≤ c6) (hf7 : Kd.F k95 W1 (fun k => W.heap.size ≤ k) A7 R.f7.length R.f7) (hc7 : R.f7.length ≤ c7) (hb : Below W.heap.size W W1) : NF w3 cp D L R 3 x y { s with A6 := A6, c6 := c6, A7 := A7, c7 := c7 } W1 := by
 have hm : ∀ q, W.heap.size ≤ q → w3.heap.size ≤ q ∧ (x = true → q ≠ s.b6) ∧ (y = true → q ≠ s.b7) := fun q hq => ⟨Nat.le_trans h.b.size hq, fun hx e => by have := blk_lt (h.hx hx).1; omega, fun hy e => by have := blk_lt (h.hy hy).1; omega⟩
 exact ⟨below_step h.b hb, fun _ => ⟨Kd.C_below (h.f1 (by omega)).1 hb, (h.f1 (by omega)).2⟩, fun _ => ⟨Kd.C_below (h.f2 (by omega)).1 hb, (h.f2 (by omega)).2⟩, fun _ => ⟨Kd.F_mono hf6 hm, hc6, Kd.F_mono hf7 hm, hc7⟩, fun hx => ⟨blk_below (h.hx hx).1 hb, (h.hx hx).2⟩, fun hy => ⟨blk_below (h.hy hy).1 hb, (h.hy hy).2⟩, h.xy⟩
theorem NF.ref (h : NF w3 cp D L R 3 true true s W)
  (hw : W1 = (((((((((W.setCell ⟨s.b6, 0, none⟩ (.slice s.A6 L.length s.c6)).setCell ⟨s.b7, 0, none⟩ (.int .i64 R.f0)).setCell ⟨s.b7, 1, none⟩ (.int .i64 R.f1)).setCell ⟨s.b7, 2, none⟩ (.int .i64 R.f2)).setCell ⟨s.b7, 3, none⟩ (.int .i64 R.f3)).setCell ⟨s.b7, 4, none⟩ (.string R.f4)).setCell ⟨s.b7, 5, none⟩ (.string R.f5)).setCell ⟨s.b7, 6, none⟩ (.int .i64 R.f6)).setCell ⟨s.b7, 7, none⟩ (.slice s.A7 R.f7.length s.c7))) : Ref w3 W1 s.b6 s.b7 s.A6 s.c6 s.A7 s.c7 L R := by
 obtain ⟨f1, f2, f3, f4⟩ := h.f6 (Nat.le_refl _)
 obtain ⟨hx, hx0⟩ := h.hx rfl
 obtain ⟨hy, hy0⟩ := h.hy rfl
 obtain ⟨k1, k2, k3, k4, k5⟩ := two_boxes (F := R) hx hy (h.xy rfl rfl) hw (n := L.length) (A := s.A6) (c := s.c6) (A3 := s.A7) (c3 := s.c7)
 exact ⟨k5 _ _ h.b hx0 hy0, k1, k2, hx0, hy0, Kd.F_mono (Kd.F_bound (Kd.F_step f1 (fun q hq _ => k3 q (hq.2.1 rfl) (hq.2.2 rfl)))) (fun q hq => ⟨hq.1.1, hq.2⟩), f2, Kd.F_mono (Kd.F_bound (Kd.F_step f3 (fun q hq _ => k3 q (hq.2.1 rfl) (hq.2.2 rfl)))) (fun q hq => ⟨hq.1.1, hq.2⟩), f4⟩
end
def fl : Nat → Bool → Bool → Nat
 | 0, false, false => 12
 | 0, false, true => 11
 | 0, true, false => 11
 | 0, true, true => 10
 | 1, false, false => 11
 | 1, false, true => 10
 | 1, true, false => 10
 | 1, true, true => 9
 | 2, false, false => 10
 | 2, false, true => 9
 | 2, true, false => 9
 | 2, true, true => 8
 | _, false, false => 5
 | _, false, true => 4
 | _, true, false => 4
 | _, true, true => 3
def bl (k : Nat) (x y : Bool) : Array Bool := #[true, decide (1 ≤ k), true, decide (2 ≤ k), decide (3 ≤ k), decide (3 ≤ k), decide (3 ≤ k), decide (3 ≤ k), decide (3 ≤ k), x, y, false, false, false]
def nl (c1 c2 c3 m e0 e1 e2 : Tmp) (cp : List S95) (D : Chg) (L : List S95) (R : Chg) (code : Int) (s : Sg) : Nat → List (Tmp × Value)
 | 0 => []
 | 1 => [(c1, .agg #[.slice s.A1 cp.length s.c1])]
 | 2 => [(c1, .agg #[.slice s.A1 cp.length s.c1]), (c2, chv D s.A2 s.c2)]
 | _ => [(c1, .agg #[.slice s.A1 cp.length s.c1]), (c2, chv D s.A2 s.c2), (c3, .tuple #[.agg #[.slice s.A6 L.length s.c6], chv R s.A7 s.c7, .int .i64 code]), (m, .tuple #[.agg #[.slice s.A6 L.length s.c6], chv R s.A7 s.c7, .int .i64 code]), (e0, .agg #[.slice s.A6 L.length s.c6]), (e1, chv R s.A7 s.c7), (e2, .int .i64 code)]
def ntl (c1 c2 c3 m e0 e1 e2 tx ty : Tmp) (cp : List S95) (D : Chg) (L : List S95) (R : Chg) (code : Int) (k : Nat) (x y : Bool) (s : Sg) : List (Tmp × Value) :=
 nl c1 c2 c3 m e0 e1 e2 cp D L R code s k ++ (match x with | true => [(tx, .pointer (some ⟨s.b6, 0, none⟩))] | false => []) ++ (match y with | true => [(ty, .pointer (some ⟨s.b7, 0, none⟩))] | false => [])
structure LB (w w4 W : World) (A : Option Addr) (n c : Nat) (C : LChg) (AC : Option Addr) (cC : Nat) (s : Sg) (cp : List S95) (D : Chg) (L : List S95) (R : Chg) (b9 : Nat) (A9 : Option Addr) (c9 : Nat) (b10 : Nat) (A10 : Option Addr) (c10 : Nat) (b11 : Nat) (A11 : Option Addr) (c11 : Nat) (b12 : Nat) (A12 : Option Addr) (c12 : Nat) : Prop where
 w4b : Below w.heap.size w w4
 b : Below w4.heap.size w4 W
 t : W.heap[w.heap.size]? = some (boxTL n A c)
 c : W.heap[w.heap.size + 1]? = some (mboxL C AC cC)
 x6 : W.heap[s.b6]? = some (boxT L.length s.A6 s.c6)
 x7 : W.heap[s.b7]? = some (mbox8 R s.A7 s.c7 33)
 f6 : Kd.F k95 W (fun k => k < w4.heap.size) s.A6 L.length L
 r6 : L.length ≤ s.c6
 f7 : Kd.F k95 W (fun k => k < w4.heap.size) s.A7 R.f7.length R.f7
 r7 : R.f7.length ≤ s.c7
 x9 : W.heap[b9]? = some (boxT cp.length A9 c9)
 x10 : W.heap[b10]? = some (mbox8 D A10 c10 33)
 x11 : W.heap[b11]? = some (boxT L.length A11 c11)
 x12 : W.heap[b12]? = some (mbox8 R A12 c12 33)
 n1 : w.heap.size + 2 ≤ w4.heap.size
 n6 : s.b6 < w4.heap.size
 n7 : s.b7 < w4.heap.size
section
variable {w w4 W W' : World} {A : Option Addr} {n c : Nat} {C : LChg} {AC : Option Addr} {cC : Nat} {s : Sg} {cp : List S95} {D : Chg} {L : List S95} {R : Chg} {b9 : Nat} {A9 : Option Addr} {c9 b10 : Nat} {A10 : Option Addr} {c10 b11 : Nat} {A11 : Option Addr} {c11 b12 : Nat} {A12 : Option Addr} {c12 : Nat} {S : Nat → Prop}
theorem LB.kept (h : LB w w4 W A n c C AC cC s cp D L R b9 A9 c9 b10 A10 c10 b11 A11 c11 b12 A12 c12) (hk : Kept W W' S) (hb : Below w4.heap.size w4 W') (hS : ∀ k, S k → w4.heap.size ≤ k ∧ k ≠ b9 ∧ k ≠ b10 ∧ k ≠ b11 ∧ k ≠ b12) : LB w w4 W' A n c C AC cC s cp D L R b9 A9 c9 b10 A10 c10 b11 A11 c11 b12 A12 c12 :=
 ⟨h.w4b, hb, blk_kept h.t hk (fun e => by have := hS _ e; have := h.n1; omega), blk_kept h.c hk (fun e => by have := hS _ e; have := h.n1; omega), blk_kept h.x6 hk (fun e => by have := hS _ e; have := h.n6; omega), blk_kept h.x7 hk (fun e => by have := hS _ e; have := h.n7; omega),
  Kd.F_step h.f6 (fun k hk1 hk2 => hk.2 k hk2 (fun e => by have := hS _ e; omega)), h.r6, Kd.F_step h.f7 (fun k hk1 hk2 => hk.2 k hk2 (fun e => by have := hS _ e; omega)), h.r7,
  blk_kept h.x9 hk (fun e => (hS _ e).2.1 rfl), blk_kept h.x10 hk (fun e => (hS _ e).2.2.1 rfl), blk_kept h.x11 hk (fun e => (hS _ e).2.2.2.1 rfl), blk_kept h.x12 hk (fun e => (hS _ e).2.2.2.2 rfl), h.n1, h.n6, h.n7⟩
theorem LB.below (h : LB w w4 W A n c C AC cC s cp D L R b9 A9 c9 b10 A10 c10 b11 A11 c11 b12 A12 c12) (hb : Below W.heap.size W W') : LB w w4 W' A n c C AC cC s cp D L R b9 A9 c9 b10 A10 c10 b11 A11 c11 b12 A12 c12 :=
 h.kept (S := fun _ => False) (Kept.of_below hb _) (below_step h.b hb) (fun _ e => e.elim)
theorem LB.wb (h : LB w w4 W A n c C AC cC s cp D L R b9 A9 c9 b10 A10 c10 b11 A11 c11 b12 A12 c12) : Below w.heap.size w W := below_step h.w4b h.b
end
structure LR (W : World) (p4 p5 p6 p7 p8 M p9 : Nat) (v9 v10 v11 v12 : Value) (l9 l10 l11 l12 : List S95) : Prop where
 s9 : Kd.S k95 95 W p4 (fun k => p4 ≤ k ∧ k < p5) v9 l9
 s10 : Kd.S k95 95 W p4 (fun k => p6 ≤ k ∧ k < p7) v10 l10
 s11 : Kd.S k95 95 W p4 (fun k => M ≤ k ∧ p8 ≤ k ∧ k < p9) v11 l11
 s12 : Kd.S k95 95 W p4 (fun k => k < M ∧ p8 ≤ k ∧ k < p9) v12 l12
section
variable {W W' : World} {p4 p5 p6 p7 p8 M p9 : Nat} {v9 v10 v11 v12 : Value} {l9 l10 l11 l12 l : List S95}
theorem LR.below (h : LR W p4 p5 p6 p7 p8 M p9 v9 v10 v11 v12 l9 l10 l11 l12) (hb : Below W.heap.size W W') : LR W' p4 p5 p6 p7 p8 M p9 v9 v10 v11 v12 l9 l10 l11 l12 := ⟨Kd.S_below h.s9 hb, Kd.S_below h.s10 hb, Kd.S_below h.s11 hb, Kd.S_below h.s12 hb⟩
theorem LR.m9 (h : LR W p4 p5 p6 p7 p8 M p9 v9 v10 v11 v12 l9 l10 l11 l12) (hn : p5 ≤ p6 ∧ p7 ≤ p8) (h67 : p6 ≤ p7) (hk : Kept W W' (fun k => p4 ≤ k ∧ k < p5)) (hs : Kd.S k95 95 W' p4 (fun k => p4 ≤ k ∧ k < p5) v9 l) : LR W' p4 p5 p6 p7 p8 M p9 v9 v10 v11 v12 l l10 l11 l12 :=
 ⟨hs, Kd.S_kept h.s10 hk (fun k h1 h2 => by omega), Kd.S_kept h.s11 hk (fun k h1 h2 => by omega), Kd.S_kept h.s12 hk (fun k h1 h2 => by omega)⟩
theorem LR.m10 (h : LR W p4 p5 p6 p7 p8 M p9 v9 v10 v11 v12 l9 l10 l11 l12) (hn : p5 ≤ p6 ∧ p7 ≤ p8) (hk : Kept W W' (fun k => p6 ≤ k ∧ k < p7)) (hs : Kd.S k95 95 W' p4 (fun k => p6 ≤ k ∧ k < p7) v10 l) : LR W' p4 p5 p6 p7 p8 M p9 v9 v10 v11 v12 l9 l l11 l12 :=
 ⟨Kd.S_kept h.s9 hk (fun k h1 h2 => by omega), hs, Kd.S_kept h.s11 hk (fun k h1 h2 => by omega), Kd.S_kept h.s12 hk (fun k h1 h2 => by omega)⟩
theorem LR.m11 (h : LR W p4 p5 p6 p7 p8 M p9 v9 v10 v11 v12 l9 l10 l11 l12) (hn : p5 ≤ p6 ∧ p7 ≤ p8) (h67 : p6 ≤ p7) (hk : Kept W W' (fun k => M ≤ k ∧ p8 ≤ k ∧ k < p9)) (hs : Kd.S k95 95 W' p4 (fun k => M ≤ k ∧ p8 ≤ k ∧ k < p9) v11 l) : LR W' p4 p5 p6 p7 p8 M p9 v9 v10 v11 v12 l9 l10 l l12 :=
 ⟨Kd.S_kept h.s9 hk (fun k h1 h2 => by omega), Kd.S_kept h.s10 hk (fun k h1 h2 => by omega), hs, Kd.S_kept h.s12 hk (fun k h1 h2 => by omega)⟩
theorem LR.m12 (h : LR W p4 p5 p6 p7 p8 M p9 v9 v10 v11 v12 l9 l10 l11 l12) (hn : p5 ≤ p6 ∧ p7 ≤ p8) (h67 : p6 ≤ p7) (hk : Kept W W' (fun k => k < M ∧ p8 ≤ k ∧ k < p9)) (hs : Kd.S k95 95 W' p4 (fun k => k < M ∧ p8 ≤ k ∧ k < p9) v12 l) : LR W' p4 p5 p6 p7 p8 M p9 v9 v10 v11 v12 l9 l10 l11 l :=
 ⟨Kd.S_kept h.s9 hk (fun k h1 h2 => by omega), Kd.S_kept h.s10 hk (fun k h1 h2 => by omega), Kd.S_kept h.s11 hk (fun k h1 h2 => by omega), hs⟩
end
end Go.Proofs.YthjgohbkpjhkeaaGreatDoor.Impl
