/- Part 35 of the proof: DoSaid, Fits, DoRow. -/
import Derived.Test.YthjgohbkpjhkeaaGreatDoorA1
import Derived.Test.YthjgohbkpjhkeaaGreatDoorA10
import Derived.Test.YthjgohbkpjhkeaaGreatDoorA34
import Derived.Test.YthjgohbkpjhkeaaGreatDoorVWords
import Derived.Test.YthjgohbkpjhkeaaGreatDoorVMore
import Derived.ProofKit
import Derived.Deep.Slices
import Derived.Test.YthjgohbkpjhkeaaGreatDoorRows
import Derived.WalkKit
import Derived.OpenShut
import Derived.ShutString
import Derived.ChangeOld
import Derived.Below
import Derived.SizedLaws
import Derived.ChangeSame
import Derived.ChangeVars
import Derived.JoinedOf
import Derived.LaidLaws
import Derived.LaidHandle
import Derived.LaidMore
import Derived.Stop.Joined
set_option linter.unusedVariables false
set_option linter.unusedSimpArgs false
set_option maxHeartbeats 4000000
set_option maxRecDepth 100000
namespace Go.Proofs.YthjgohbkpjhkeaaGreatDoor.Impl
open Go.RowKit Go.Proofs.YthjgohbkpjhkeaaGreatDoorW.PrintWords Go.Proofs.YthjgohbkpjhkeaaGreatDoorW.PrintLast Go.Proofs.YthjgohbkpjhkeaaGreatDoorW.PrintMore Go.Proofs.YthjgohbkpjhkeaaGreatDoor.PFnExactDo Go.Proofs.YthjgohbkpjhkeaaGreatDoor.MapLib Go.Proofs.YthjgohbkpjhkeaaGreatDoor.FireSpec Go.Proofs.YthjgohbkpjhkeaaGreatDoor.Tr
structure LawIn (w : World) (A : Option Addr) (c : Nat) (xs : List LNode) (C : LChg) (AC : Option Addr) (cC : Nat) : Prop where
 r : Kd.C k108 w A xs.length xs
 c : xs.length ≤ c
 f : ∀ n ∈ xs, nodeFit n
 i : ∀ n ∈ xs, n.f5 ≤ 9223372036854775807 ∧ -9223372036854775808 ≤ n.f5
 l : xs.length ≤ 9223372036854775807
 rC : Kd.C k108 w AC C.f7.length C.f7
 cC : C.f7.length ≤ cC
 fC : chgFit C
 iC : ∀ n ∈ C.f7, n.f5 ≤ 9223372036854775807 ∧ -9223372036854775808 ≤ n.f5
theorem law_early1 (A : Option Addr) (c : Nat) (xs : List LNode) (C : LChg) (AC : Option Addr) (cC : Nat) (w : World) (hs1 : ∀ W, Below w.heap.size w W → Calls Tryz.prog 8 #[.agg #[.slice A xs.length c], .int .i64 1048576] W fun e w' => e = .returned (.int .i64 (-1)) ∧ Below W.heap.size W w') :
  Calls Tryz.prog 3 #[.agg #[.slice A xs.length c], chvL C AC cC] w (LawEnd w) := by
 have HSZ := am hs1
 clear hs1
 go_enter Tryz.func3, Tryz.ntmps3
 go_upto_region 2 with (fail)
 have H0 := am (L0.two (w := w) (A := A) (n := xs.length) (c := c) (C := C) (AC := AC) (cC := cC))
 generalize World.alloc _ _ = w1 at H0 ⊢
 have t0 := blk_cell H0.out.t 0
 go_wp2_with (first | (go_at_call 8; refine (HSZ.out _ H0.out.b).mono ?_; rintro e w2 ⟨rfl, hb2⟩; have H1 := am (H0.out.below hb2); clear hb2) | fail)
 go_ret
 exact ⟨rfl, H1.out.b⟩
theorem law_early2 (A : Option Addr) (c : Nat) (xs : List LNode) (C : LChg) (AC : Option Addr) (cC : Nat) (w : World) (r1 : Int) (hs1 : ∀ W, Below w.heap.size w W → Calls Tryz.prog 8 #[.agg #[.slice A xs.length c], .int .i64 1048576] W fun e w' => e = .returned (.int .i64 r1) ∧ Below W.heap.size W w') (hr1 : 0 ≤ r1)
  (hs2 : ∀ W, Below w.heap.size w W → Calls Tryz.prog 9 #[chvL C AC cC, .int .i64 r1] W fun e w' => e = .returned (.int .i64 (-1)) ∧ Below W.heap.size W w') :
  Calls Tryz.prog 3 #[.agg #[.slice A xs.length c], chvL C AC cC] w (LawEnd w) := by
 have hd1 : decide (r1 < 0) = false := decide_eq_false (by omega)
 have HSZ := am (And.intro hs1 hs2)
 clear hs1 hs2 hr1
 go_enter Tryz.func3, Tryz.ntmps3
 go_upto_region 2 with (fail)
 have H0 := am (L0.two (w := w) (A := A) (n := xs.length) (c := c) (C := C) (AC := AC) (cC := cC))
 generalize World.alloc _ _ = w1 at H0 ⊢
 have t0 := blk_cell H0.out.t 0
 go_upto_region 5 with (first | (go_at_call 8; refine (HSZ.out.1 _ H0.out.b).mono ?_; rintro e w2 ⟨rfl, hb2⟩; have H1 := am (H0.out.below hb2); clear hb2) | fail)
 clear t0 H0
 have t0 := blk_cell H1.out.t 0
 obtain ⟨x0, x1, x2, x3, x4, x5, x6, x7⟩ := cells8L H1.out.c
 go_wp2_with (first | (go_at_call 9; refine (HSZ.out.2 _ H1.out.b).mono ?_; rintro e w3 ⟨rfl, hb3⟩; have H2 := am (H1.out.below hb3); clear hb3) | fail)
 go_ret
 exact ⟨rfl, H2.out.b⟩
theorem LawIn.parts {w : World} {A : Option Addr} {c : Nat} {xs : List LNode} {C : LChg} {AC : Option Addr} {cC : Nat} (h : LawIn w A c xs C AC cC) (hv : Err.ErrVar w) (hn : xs.length ≤ 1048576) (ha : ∀ n ∈ xs, n.f3.length ≤ 1048576) (hnC : C.f7.length ≤ 1048576) (haC : ∀ n ∈ C.f7, n.f3.length ≤ 1048576) :
  TreeIs w A xs.length c (xs.map cpNode) ∧ ChgIs w C AC cC (cpChg C) ∧ SpecIs w 10 (xs.map cpNode) (cpChg C) (doRes (xs.map cpNode) (cpChg C)).1 (doRes (xs.map cpNode) (cpChg C)).2.1 (doRes (xs.map cpNode) (cpChg C)).2.2 ∧ ImplIs w (xs.map cpNode) (cpChg C) (doRes (xs.map cpNode) (cpChg C)).1 (doRes (xs.map cpNode) (cpChg C)).2.1 (doRes (xs.map cpNode) (cpChg C)).2.2 ∧ Small (xs.map cpNode) ∧ Small (cpChg C).f7 ∧ Small (doRes (xs.map cpNode) (cpChg C)).1 ∧ Small (doRes (xs.map cpNode) (cpChg C)).2.1.f7 := by
 have hcp : ∀ (l : List LNode), (∀ n ∈ l, n.f3.length ≤ 1048576) → ∀ n ∈ l.map cpNode, n.f3.length ≤ 1048576 := fun l hl n hm => by
  obtain ⟨m, hm2, rfl⟩ := List.mem_map.1 hm
  simpa [cpNode] using hl m hm2
 have h5 : ∀ (l : List LNode), (∀ n ∈ l, n.f5 ≤ 9223372036854775807 ∧ -9223372036854775808 ≤ n.f5) → ∀ n ∈ l.map cpNode, n.f5 ≤ 9223372036854775807 ∧ -9223372036854775808 ≤ n.f5 := fun l hl n hm => by
  obtain ⟨m, hm2, rfl⟩ := List.mem_map.1 hm
  exact hl m hm2
 have a1 := hcp xs ha
 have a2 : ∀ n ∈ (cpChg C).f7, n.f3.length ≤ 1048576 := hcp C.f7 haC
 have l1 : (xs.map cpNode).length = xs.length := by simp
 have l2 : (cpChg C).f7.length = C.f7.length := by simp [cpChg]
 have s1 : Small (xs.map cpNode) := ⟨by omega, fun n hn => by have := a1 n hn; omega⟩
 have s2 : Small (cpChg C).f7 := ⟨by omega, fun n hn => by have := a2 n hn; omega⟩
 obtain ⟨s3, s4⟩ := res_small (C := cpChg C) s1 a1 a2
 refine ⟨fun W hW => ?_, fun W hW => ?_, fun W A1 c1 A2 c2 hW g1 g2 g3 g4 => ?_, fun W A1 c1 A2 c2 hW g1 g2 g3 g4 => ?_, s1, s2, s3, s4⟩
 ·refine (toTree_calls xs hn ha A c W (Kd.C_below h.r hW) h.c).mono ?_
  rintro e w' ⟨v, rfl, hS, hb⟩
  obtain ⟨A1, c1, rfl⟩ := Kd.S_slice hS
  exact ⟨A1, c1, rfl, Kd.S_mono (Kd.S_bound hS) (fun k hk => hk.2.2.1), hb⟩
 ·refine (toChange_calls C.f0 C.f1 C.f2 C.f3 C.f4 C.f5 C.f6 C.f7 hnC haC AC cC W (Kd.C_below h.rC hW) h.cC).mono ?_
  rintro e w' ⟨v, rfl, hS, hb⟩
  obtain ⟨A1, c1, rfl⟩ := Kd.S_slice hS
  exact ⟨A1, c1, rfl, Kd.S_mono (Kd.S_bound hS) (fun k hk => hk.2.2.1), hb⟩
 ·exact specDo_calls ⟨g1, g2, fun n hn => by have := a1 n hn; omega, g3, g4, by omega, fun n hn => by have := a2 n hn; omega⟩
 ·exact do_calls _ A1 c1 (cpChg C) A2 c2 W ((hW.cell (World.block_lt_of_cell? w _ hv)).trans hv) g1 g2 (fun n hn => (h5 xs h.i n hn).1) (fun n hn => by have := a1 n hn; omega) ⟨g3, by omega, fun n hn => by have := a2 n hn; omega, h5 C.f7 h.iC⟩
theorem law_all {w : World} {A : Option Addr} {c : Nat} {xs : List LNode} {C : LChg} {AC : Option Addr} {cC : Nat} (h : LawIn w A c xs C AC cC) (hv : Err.ErrVar w) : Calls Tryz.prog 3 #[.agg #[.slice A xs.length c], chvL C AC cC] w (LawEnd w) := by
 have hl1 := szT_left xs 1048576
 obtain ⟨r1, hr1⟩ : ∃ r1, szT xs 1048576 = r1 := ⟨_, rfl⟩
 rw [hr1] at hl1
 have hs1 : ∀ W, Below w.heap.size w W → Calls Tryz.prog 8 #[.agg #[.slice A xs.length c], .int .i64 1048576] W fun e w' => e = .returned (.int .i64 r1) ∧ Below W.heap.size W w' := fun W hW => hr1 ▸ szTree_calls xs h.f h.l 1048576 (by omega) (by omega) A c W (Kd.C_below h.r hW) h.c
 rcases hl1 with hl1 | ⟨hl1, hl2, hl3, hl4⟩
 ·subst hl1
  exact law_early1 A c xs C AC cC w hs1
 have hl5 := szC_left C.f4 C.f5 C.f7 r1
 obtain ⟨r2, hr2⟩ : ∃ r2, szC C.f4 C.f5 C.f7 r1 = r2 := ⟨_, rfl⟩
 rw [hr2] at hl5
 have hs2 : ∀ W, Below w.heap.size w W → Calls Tryz.prog 9 #[chvL C AC cC, .int .i64 r1] W fun e w' => e = .returned (.int .i64 r2) ∧ Below W.heap.size W w' := fun W hW => hr2 ▸ szChange_calls C.f0 C.f1 C.f2 C.f3 C.f4 C.f5 C.f6 C.f7 h.fC.1 h.fC.2.1 h.fC.2.2.2 h.fC.2.2.1 r1 hl1 hl2 AC cC W (Kd.C_below h.rC hW) h.cC
 rcases hl5 with hl5 | ⟨hl5, hl6, hl7, hl8⟩
 ·subst hl5
  exact law_early2 A c xs C AC cC w r1 hs1 hl1 hs2
 obtain ⟨p1, p2, p3, p4, p5, p6, p7, p8⟩ := h.parts hv (by omega) (fun n hn => by have := hl4 n hn; omega) (by omega) (fun n hn => by have := hl8 n hn; omega)
 exact law_calls A c xs C AC cC w r1 r2 hs1 hl1 hs2 hl5 _ _ _ _ _ p1 p2 p3 p4 p5 p6 p7 p8
end Go.Proofs.YthjgohbkpjhkeaaGreatDoor.Impl
namespace Go.Proofs.YthjgohbkpjhkeaaGreatDoor.Fits
open Go.RowKit Go.Proofs.YthjgohbkpjhkeaaGreatDoorW.PrintWords
section
variable {H : Type} (enc : TypeId × Value → H) (P : Program) (w : World) (spare : Nat → Bool) (held : Bool)
def FitsK {α : Type} (d : Kd α) (ok : α → Prop) (t : TypeId) : Prop :=
 d.sz = P.cellsOf t ∧ ∀ fuel cs x, DataW.trod enc P w 0 spare held fuel t cs = some x → ∃ y, d.K w y cs ∧ ok y
def FitsF {α : Type} (d : Kd α) (ok : α → Prop) (fs : List Field) (o : Nat) : Prop :=
 ∀ (n : Nat) (cs : List Value), (∀ f, f ∈ fs → ∃ x, DataW.trod enc P w 0 spare held n f.type ((cs.drop f.offset).take (P.cellsOf f.type)) = some x) → ∃ y, d.K w y ((cs.drop o).take d.sz) ∧ ok y
variable {enc P w spare held}
theorem fits_int {t : TypeId} {k : IntKind} (h : P.underlying t = some (.int k)) (hc : P.cellsOf t = 1) : FitsK enc P w spare held (Kd.int k) (fun n => (Lit.int k n).wf = true) t :=
 ⟨hc.symm, fun _ _ _ hx => let ⟨n, hcs, _, hw⟩ := DataW.trod_int h hx; ⟨n, hcs, hw⟩⟩
theorem fits_string {t : TypeId} (h : P.underlying t = some .string) (hc : P.cellsOf t = 1) : FitsK enc P w spare held Kd.string (fun s => s.size ≤ maxLen) t :=
 ⟨hc.symm, fun _ _ _ hx => let ⟨n, hcs, _, hw⟩ := DataW.trod_string h hx; ⟨n, hcs, hw⟩⟩
theorem cells_at {w : World} {a : Addr} {n : Nat} {cs : List Value} (h : w.cells? 0 a n = some cs) : cs.length = n ∧ ∀ i u, cs[i]? = some u → w.cell? (a.add i) = some u := by
 obtain ⟨_, hl, hc⟩ := World.cells?_some h
 refine ⟨hl, fun i u hu => ?_⟩
 have hi : i < n := by
  rcases Nat.lt_or_ge i cs.length with hi | hi
  ·omega
  ·rw [List.getElem?_eq_none hi] at hu; cases hu
 rw [hc i hi, hu]
theorem fits_slice {α : Type} {d : Kd α} {ok : α → Prop} {t e : TypeId} (h : P.underlying t = some (.slice e)) (hc : P.cellsOf t = 1) (hd : FitsK enc P w spare held d ok e) :
  FitsK enc P w spare held (Kd.slice e d) (fun xs => xs.length ≤ maxLen ∧ ∀ x, x ∈ xs → ok x) t := by
 refine ⟨hc.symm, fun fuel cs x hx => ?_⟩
 rcases Go.Deep.open_slice h hx with ⟨rfl, _⟩ | ⟨a, len, cap, m, n, D, Pl, rfl, _, hl, hm, hme, _, hel⟩
 ·exact ⟨[], ⟨none, 0, rfl, Nat.le_refl _, by simp, by simp, fun h0 => absurd h0 (by simp)⟩, by simp [maxLen], by simp⟩
 ·have hle : len ≤ m := by rw [hme]; split <;> omega
  have key : ∀ i, i < len → ∃ y c, c.length = d.sz ∧ d.K w y c ∧ ok y ∧ ∀ j u, c[j]? = some u → w.cell? (a.add (i * d.sz + j)) = some u := by
   intro i hi
   obtain ⟨cs', h1, h2⟩ := hel i (by omega)
   obtain ⟨y, hy, hok⟩ := hd.2 _ _ _ h2
   obtain ⟨hl1, hcell⟩ := cells_at h1
   refine ⟨y, cs', by rw [hl1, hd.1], hy, hok, fun j u hu => ?_⟩
   have := hcell j u hu
   rwa [Go.Deep.add_add, ← hd.1] at this
  have hex : ∃ ys : List α, ys.length = len ∧ ∀ i y, ys[i]? = some y → ∃ c, c.length = d.sz ∧ d.K w y c ∧ ok y ∧ ∀ j u, c[j]? = some u → w.cell? (a.add (i * d.sz + j)) = some u := by
   clear hel hle hme hm hl hx
   revert key
   generalize len = len
   intro key
   induction len with
   | zero => exact ⟨[], rfl, by simp⟩
   | succ len ih =>
    obtain ⟨ys, hyl, hys⟩ := ih (fun i hi => key i (by omega))
    obtain ⟨y, hy⟩ := key len (by omega)
    refine ⟨ys ++ [y], by simp [hyl], fun i z hz => ?_⟩
    rcases Nat.lt_or_ge i len with hi | hi
    ·rw [List.getElem?_append_left (by omega)] at hz
     exact hys i z hz
    ·rw [List.getElem?_append_right (by omega)] at hz
     have : i - ys.length = 0 := by
      rcases Nat.eq_zero_or_pos (i - ys.length) with h0 | h0
      ·exact h0
      ·rw [List.getElem?_eq_none (by simp; omega)] at hz; cases hz
     rw [this] at hz
     simp at hz
     subst hz
     have : i = len := by omega
     subst this
     exact hy
  obtain ⟨ys, hyl, hys⟩ := hex
  refine ⟨ys, ⟨some a, cap, by rw [hyl], by omega, ?_⟩, by simp only [maxLen] at *; omega, ?_⟩
  ·refine ⟨rfl, by simp only [maxLen] at *; omega, fun _ => ⟨a, rfl, fun j p hj => ?_⟩⟩
   obtain ⟨c, h1, h2, _, h4⟩ := hys j p hj
   exact ⟨c, h1, h2, h4⟩
  ·intro z hz
   obtain ⟨i, hi⟩ := List.mem_iff_getElem?.1 hz
   obtain ⟨_, _, _, h3, _⟩ := hys i z hi
   exact h3
theorem fitsF_one {α : Type} {d : Kd α} {ok : α → Prop} {f : Field} {o : Nat} (hd : FitsK enc P w spare held d ok f.type) (ho : f.offset = o) : FitsF enc P w spare held d ok [f] o := by
 intro n cs h
 obtain ⟨x, hx⟩ := h f (by simp)
 rw [ho, ← hd.1] at hx
 exact hd.2 _ _ _ hx
theorem fitsF_cons {α β : Type} {d0 : Kd α} {d1 : Kd β} {ok0 : α → Prop} {ok1 : β → Prop} {f : Field} {fs : List Field} {o : Nat} (hd : FitsK enc P w spare held d0 ok0 f.type) (ho : f.offset = o)
  (h1 : FitsF enc P w spare held d1 ok1 fs (o + d0.sz)) : FitsF enc P w spare held (Kd.pair d0 d1) (fun y => ok0 y.1 ∧ ok1 y.2) (f :: fs) o := by
 intro n cs h
 obtain ⟨x, hx⟩ := h f (by simp)
 rw [ho, ← hd.1] at hx
 obtain ⟨y0, hy0, hk0⟩ := hd.2 _ _ _ hx
 obtain ⟨y1, hy1, hk1⟩ := h1 n cs (fun g hg => h g (by simp [hg]))
 refine ⟨(y0, y1), ⟨_, _, ?_, hy0, hy1⟩, hk0, hk1⟩
 show (cs.drop o).take (d0.sz + d1.sz) = _
 rw [List.take_add, List.drop_drop]
theorem fits_struct {α β : Type} {d : Kd α} {ok : α → Prop} {ok' : β → Prop} {f : β → α} {t : TypeId} {fs : Array Field} (h : P.underlying t = some (.struct fs)) (hd : FitsF enc P w spare held d ok fs.toList 0) (hc : d.sz = P.cellsOf t)
  (hf : ∀ y, ok y → ∃ x, f x = y ∧ ok' x) : FitsK enc P w spare held (Kd.iso d f) ok' t := by
 refine ⟨hc, fun fuel cs x hx => ?_⟩
 obtain ⟨xs, n, _, _, hl, hxs, hel⟩ := DataW.trod_struct h hx
 obtain ⟨y, hy, hk⟩ := hd n cs (fun g hg => by
  obtain ⟨i, hi⟩ := List.mem_iff_getElem?.1 hg
  have hi' : fs[i]? = some g := by simpa using hi
  have h2 := hel i g hi'
  have hlt : i < xs.length := by rw [hxs]; exact (Array.getElem?_eq_some_iff.1 hi').1
  exact ⟨xs[i], by rw [h2, List.getElem?_eq_getElem hlt]⟩)
 obtain ⟨z, rfl, hz⟩ := hf y hk
 refine ⟨z, ?_, hz⟩
 show d.K w (f z) cs
 have : (cs.drop 0).take d.sz = cs := by rw [List.drop_zero, hc, ← hl, List.take_length]
 rwa [this] at hy
end
end Go.Proofs.YthjgohbkpjhkeaaGreatDoor.Fits
set_option maxRecDepth 100000
namespace Go.Proofs.YthjgohbkpjhkeaaGreatDoor.RowDo
open Go.ChangeShapes Go.WideShapes Go.ChangeAt Go.RowKit Go.Proofs.YthjgohbkpjhkeaaGreatDoorW.PrintWords Go.Proofs.YthjgohbkpjhkeaaGreatDoorW.PrintLast Go.Proofs.YthjgohbkpjhkeaaGreatDoorW.PrintMore Go.Proofs.YthjgohbkpjhkeaaGreatDoor.PFnExactDo Go.Proofs.YthjgohbkpjhkeaaGreatDoor.FireSpec Go.Proofs.YthjgohbkpjhkeaaGreatDoor.Impl Go.Proofs.YthjgohbkpjhkeaaGreatDoor.Fits
open Go.ChangeMaps (open_string shut_string)
theorem et : Tryz.prog.globalNamed "errors.errorType" = some 0 := by kernel_rfl
theorem rt : (Tryz.prog.cutTypes.find? (·.1 == "internal/reflectlite.rtype")).map (·.2) = some 193 := by kernel_rfl
theorem tsize : ((List.range Tryz.prog.types.size).filter fun t => Tryz.prog.rowNamed t [101, 114, 114, 111, 114]) = [76] := by kernel_rfl
theorem errVar_of {W : World} (h : laidMetH Tryz.prog Rows.fnExactDoRow.laid W) : Err.ErrVar W := by
 have h' : laidMet Tryz.prog [] W ∧ handlesMet Tryz.prog Rows.fnExactDoRow.laid W := h
 obtain ⟨name, u, ty, e1, e2, e3, e4, e5⟩ := h'.2 _ (List.mem_singleton.2 rfl)
 have en : name = [101, 114, 114, 111, 114] := (Option.some.inj e1).symm
 subst en
 obtain rfl := Option.some.inj (rt.symm.trans e2)
 have hm : ty ∈ (List.range Tryz.prog.types.size).filter fun t => Tryz.prog.rowNamed t [101, 114, 114, 111, 114] := List.mem_filter.2 ⟨List.mem_range.2 e3, e4⟩
 rw [tsize] at hm
 obtain rfl := List.mem_singleton.1 hm
 have hh : typeHandle Tryz.prog 76 = .pointer (some ⟨1, 76, none⟩) := by kernel_rfl
 rw [hh] at e5
 simpa using World.var?_cell et e5 0
section
variable {H : Type} {enc : TypeId × Value → H} {w : World} {spare : Nat → Bool} {held : Bool}
def nodeIn (x : S108) : Prop := nodeFit x ∧ x.f5 ≤ 9223372036854775807 ∧ -9223372036854775808 ≤ x.f5
theorem fits_attr : FitsK enc Tryz.prog w spare held k189 attrFit 189 :=
 fits_struct Tryz.underlying189 (fitsF_cons (fits_string Tryz.underlying9 (by kernel_rfl)) rfl (fitsF_one (fits_string Tryz.underlying9 (by kernel_rfl)) rfl)) (by kernel_rfl) (fun y hy => ⟨⟨y.1, y.2⟩, rfl, hy.1, hy.2⟩)
theorem fits_node : FitsK enc Tryz.prog w spare held k108 nodeIn 108 :=
 fits_struct Tryz.underlying108 (fitsF_cons (fits_int Tryz.underlying3 (by kernel_rfl)) rfl (fitsF_cons (fits_int Tryz.underlying3 (by kernel_rfl)) rfl (fitsF_cons (fits_string Tryz.underlying9 (by kernel_rfl)) rfl (fitsF_cons (fits_slice Tryz.underlying106 (by kernel_rfl) fits_attr) rfl (fitsF_cons (fits_string Tryz.underlying9 (by kernel_rfl)) rfl (fitsF_one (fits_int Tryz.underlying3 (by kernel_rfl)) rfl)))))) (by kernel_rfl)
  (fun y hy => ⟨⟨y.1, y.2.1, y.2.2.1, y.2.2.2.1, y.2.2.2.2.1, y.2.2.2.2.2⟩, rfl, ⟨hy.2.2.1, hy.2.2.2.2.1, hy.2.2.2.1.1, hy.2.2.2.1.2⟩, (bounds_i64 hy.2.2.2.2.2).2, (bounds_i64 hy.2.2.2.2.2).1⟩)
theorem fits_nodes : FitsK enc Tryz.prog w spare held (Kd.slice 108 k108) (fun xs => xs.length ≤ maxLen ∧ ∀ x, x ∈ xs → nodeIn x) 22 := fits_slice Tryz.underlying22 (by kernel_rfl) fits_node
theorem fits_tree : FitsK enc Tryz.prog w spare held (Kd.iso (Kd.slice 108 k108) (fun x : List S108 => x)) (fun xs => xs.length ≤ maxLen ∧ ∀ x, x ∈ xs → nodeIn x) 24 :=
 fits_struct Tryz.underlying24 (fitsF_one fits_nodes rfl) (by kernel_rfl) (fun y hy => ⟨y, rfl, hy⟩)
def kChg : Kd LChg := Kd.iso (Kd.pair (Kd.int .i64) (Kd.pair (Kd.int .i64) (Kd.pair (Kd.int .i64) (Kd.pair (Kd.int .i64) (Kd.pair Kd.string (Kd.pair Kd.string (Kd.pair (Kd.int .i64) (Kd.slice 108 k108)))))))) (fun x : LChg => (x.f0, x.f1, x.f2, x.f3, x.f4, x.f5, x.f6, x.f7))
def chgIn (C : LChg) : Prop := chgFit C ∧ ∀ x ∈ C.f7, nodeIn x
theorem fits_chg : FitsK enc Tryz.prog w spare held kChg chgIn 26 :=
 fits_struct Tryz.underlying26 (fitsF_cons (fits_int Tryz.underlying3 (by kernel_rfl)) rfl (fitsF_cons (fits_int Tryz.underlying3 (by kernel_rfl)) rfl (fitsF_cons (fits_int Tryz.underlying3 (by kernel_rfl)) rfl (fitsF_cons (fits_int Tryz.underlying3 (by kernel_rfl)) rfl (fitsF_cons (fits_string Tryz.underlying9 (by kernel_rfl)) rfl (fitsF_cons (fits_string Tryz.underlying9 (by kernel_rfl)) rfl (fitsF_cons (fits_int Tryz.underlying3 (by kernel_rfl)) rfl (fitsF_one fits_nodes rfl)))))))) (by kernel_rfl)
  (fun y hy => ⟨⟨y.1, y.2.1, y.2.2.1, y.2.2.2.1, y.2.2.2.2.1, y.2.2.2.2.2.1, y.2.2.2.2.2.2.1, y.2.2.2.2.2.2.2⟩, rfl, ⟨hy.2.2.2.2.1, hy.2.2.2.2.2.1, hy.2.2.2.2.2.2.2.1, fun n hn => (hy.2.2.2.2.2.2.2.2 n hn).1⟩, hy.2.2.2.2.2.2.2.2⟩)
theorem chg_open {x : LChg} {cs : List Value} (h : kChg.K w x cs) : ∃ A c, cs = [.int .i64 x.f0, .int .i64 x.f1, .int .i64 x.f2, .int .i64 x.f3, .string x.f4, .string x.f5, .int .i64 x.f6, .slice A x.f7.length c] ∧ x.f7.length ≤ c ∧ Kd.C k108 w A x.f7.length x.f7 := by
 obtain ⟨_, _, rfl, rfl, ⟨_, _, rfl, rfl, ⟨_, _, rfl, rfl, ⟨_, _, rfl, rfl, ⟨_, _, rfl, rfl, ⟨_, _, rfl, rfl, ⟨_, _, rfl, rfl, ⟨A, c, rfl, l, g⟩⟩⟩⟩⟩⟩⟩⟩ := h
 exact ⟨A, c, rfl, l, g⟩
end
theorem own : ownKnob Tryz.prog.godebug = none := by kernel_rfl
theorem laidOut : laidOutB Tryz.prog = true := by kernel_rfl
theorem door_met (os : Os) (args : Array Value) : laidMetH Tryz.prog Rows.fnExactDoRow.laid ((World.doorLaid Tryz.prog 400 os).forCall (fun _ _ => 0) ⟨#[], args, []⟩).memory :=
 laidMetH_of_parts (laidMet_nil _ _) (by kernel_rfl)
theorem lifted (os : Os) (started : os.Started) (H : Type) (enc : TypeId × Value → H) :
  ReturnsInHanded {} Tryz.checked os 3 .any (fun w args => (Rows.fnExactDoSpec.pre enc Tryz.prog Tryz.f3 [] false w args ∧ laidMetH Tryz.prog Rows.fnExactDoRow.laid w) ∧ sizedMet enc Tryz.prog Tryz.f3 (OpenSpec.ofChange Rows.fnExactDoSpec) false w args)
   (Rows.fnExactDoSpec.post enc Tryz.prog Tryz.f3 false true false false) := by
 refine returnsInHanded_of_change_and (C := Tryz.checked) (X := fun w _ => laidMetH Tryz.prog Rows.fnExactDoRow.laid w) (fun _ _ _ hh h => h.of_heap hh) own started (by kernel_rfl) Tryz.func3
  (ChangeSpec.witness_at (enc := enc) (C := Tryz.checked) (os := os) (X := fun w _ => laidMetH Tryz.prog Rows.fnExactDoRow.laid w) false (World.doorLaid Tryz.prog 400 os) #[.agg #[.slice none 0 0], .agg #[.int .i64 0, .int .i64 0, .int .i64 0, .int .i64 0, .string ByteArray.empty, .string ByteArray.empty, .int .i64 0, .slice none 0 0]] 8 rfl (by kernel_rfl) (by kernel_rfl) (by kernel_rfl) (by kernel_rfl) (by kernel_rfl) (door_met os _)) ?_
 intro W base args ds gs before hval0 hW _ _ hL _
 have hval : ∀ (j : Nat) t v, Tryz.f3.params[j]? = some t → args[j]? = some v → Value.okWide Tryz.prog W .any base t v := hval0
 have hW' := hW
 obtain ⟨p, q, hA0, hV, rfl, hfz, hnd⟩ := hW
 have hA : DataW.TrodAll enc Tryz.prog W 0 (fun _ => true) true Tryz.f3.params.toList args.toList ds p := hA0
 rw [Tryz.params3] at hA hval
 obtain ⟨v0, vs0, d0, ds0, p0, q0, hargs, rfl, rfl, h0, r0⟩ := trodAll_cons hA
 obtain ⟨v1, vs1, d1, ds1, p1, q1, rfl, rfl, rfl, h1, r1⟩ := trodAll_cons r0
 obtain ⟨rfl, rfl, rfl⟩ := trodAll_nil r1
 obtain rfl : args = #[v0, v1] := by cases args; simp_all
 obtain ⟨rfl, rfl⟩ := trodVars_none hV
 obtain ⟨cs0, rfl, _⟩ := okWide_struct Tryz.underlying24 (hval 0 24 v0 rfl rfl)
 obtain ⟨cs1, rfl, _⟩ := okWide_struct Tryz.underlying26 (hval 1 26 v1 rfl rfl)
 have k0 := h0
 have lt0 : ∀ x ∈ p0, x.block < W.heap.size := by obtain ⟨m, hm⟩ := k0; exact DataW.trod_lt m _ _ _ hm
 have k1 := h1
 have lt1 : ∀ x ∈ p1, x.block < W.heap.size := by obtain ⟨m, hm⟩ := k1; exact DataW.trod_lt m _ _ _ hm
 obtain ⟨f0, hf0⟩ := h0
 obtain ⟨xs, hK0, hx0, hx1⟩ := fits_tree.2 _ _ _ hf0
 obtain ⟨A, c, e0, hc, hC⟩ := hK0
 obtain ⟨f1, hf1⟩ := h1
 obtain ⟨C, hK1, hc0, hc1⟩ := fits_chg.2 _ _ _ hf1
 obtain ⟨AC, cC, e1, hcC, hCC⟩ := chg_open hK1
 simp [Value.cells] at e0 e1
 obtain rfl : cs0 = #[.slice A xs.length c] := by
  first
   | exact e0
   | (apply Array.ext'; simpa using e0)
 obtain rfl : cs1 = #[.int .i64 C.f0, .int .i64 C.f1, .int .i64 C.f2, .int .i64 C.f3, .string C.f4, .string C.f5, .int .i64 C.f6, .slice AC C.f7.length cC] := by
  first
   | exact e1
   | (apply Array.ext'; simpa using e1)
 clear hA0 hval0
 refine (law_all (A := A) (c := c) (xs := xs) (C := C) (AC := AC) (cC := cC) ⟨hC, hc, fun x hx => (hx1 x hx).1, fun x hx => (hx1 x hx).2, by unfold maxLen at hx0; omega, hCC, hcC, hc0, fun x hx => (hc1 x hx).2⟩ (errVar_of hL)).mono fun e W' ⟨he, bel⟩ => ?_
 subst he
 exact ⟨_, rfl, _, _, _, [], _, [], hW', trodAll_mk1 (shut_bool Tryz.underlying4 _), (trodAll_cons_mk (Below.trod laidOut (by kernel_rfl) (of_decide_eq_true (by kernel_rfl)) k0 bel lt0) (trodAll_cons_mk (Below.trod laidOut (by kernel_rfl) (of_decide_eq_true (by kernel_rfl)) k1 bel lt1) trodAll_mk0)), rfl, bel.frame _, fun h => by cases h⟩
theorem over : Rows.FnExactDoSaid :=
 OpenClaim.holds_of_wide 3 Tryz.f3 rfl rfl rfl rfl rfl rfl rfl ⟨rfl, rfl, rfl, rfl, rfl⟩ rfl rfl rfl rfl rfl (by kernel_rfl) Tryz.func3 (by kernel_rfl)
  (of_decide_eq_true (by kernel_rfl)) (by unfold Func.isWrapper; first | (rw [if_pos (by decide +kernel)]; kernel_rfl) | (rw [if_neg (by decide +kernel)]; exact ⟨rfl, rfl⟩))
  (fun os started H enc _ => lifted os started H enc)
end Go.Proofs.YthjgohbkpjhkeaaGreatDoor.RowDo
