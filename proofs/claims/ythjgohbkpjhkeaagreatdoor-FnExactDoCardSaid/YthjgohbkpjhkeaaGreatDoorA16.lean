/- Part 16 of the proof: DoList, DoRemove, DoGiveAt. -/
import Derived.Test.YthjgohbkpjhkeaaGreatDoorA1
import Derived.Test.YthjgohbkpjhkeaaGreatDoorA5
import Derived.Test.YthjgohbkpjhkeaaGreatDoorA15
import Derived.Test.YthjgohbkpjhkeaaGreatDoorA14
import Derived.Deep.RegionWith
import Derived.Deep.RegionHeld3
set_option linter.unusedVariables false
set_option linter.unusedSimpArgs false
set_option maxHeartbeats 4000000
set_option maxRecDepth 100000
namespace Go.Proofs.YthjgohbkpjhkeaaGreatDoor.Impl
open Go.RowKit Go.Proofs.YthjgohbkpjhkeaaGreatDoorW.PrintWords Go.Proofs.YthjgohbkpjhkeaaGreatDoorW.PrintLast Go.Proofs.YthjgohbkpjhkeaaGreatDoorW.PrintMore Go.Proofs.YthjgohbkpjhkeaaGreatDoor.PFnExactDo Go.Proofs.YthjgohbkpjhkeaaGreatDoor.MapLib Go.Proofs.YthjgohbkpjhkeaaGreatDoor.FireSpec Go.Proofs.YthjgohbkpjhkeaaGreatDoor.Tr Go.Proofs.YthjgohbkpjhkeaaGreatDoor.Fo
theorem infoN : (Tryz.prog.info? 95).map (fun i => (i.zero, i.size, i.bytes)) = some (some (.agg #[.int .i64 0, .int .i64 0, .string ⟨#[]⟩, .slice none 0 0, .string ⟨#[]⟩, .int .i64 0]), 6, 80) := by kernel_rfl
abbrev NodeRow (w : World) (base : Nat) (v : Value) (ns : List S95) : Prop := Kd.S k95 95 w base (fun _ => True) v ns
def ListEnd (w : World) (base : Nat) (v : Value) (ns : List S95) (e : Ending) (w' : World) : Prop :=
 ∃ v', e = .returned v' ∧ NodeRow w' base v' ns ∧ Kept w w' (fun b => v.ownBlock = some b) ∧ (∀ B, B ≤ base → Below B w w') ∧ (v'.ownBlock = v.ownBlock ∨ ∃ b, v'.ownBlock = some b ∧ w.heap.size ≤ b)
section
variable {w0 w w3 w4 : World} {base b0 : Nat} {v v4 : Value} {outs : List S95} {u : Value} {xs : List S149}
theorem list_row (h : Kd.R k149 149 w3 w.heap.size (fun _ => True) u xs) (hb : base ≤ w.heap.size) (o : Obj) : Kd.R k149 149 (w3.alloc o) base (fun b => w.heap.size ≤ b ∧ b < w3.heap.size) u xs :=
 Kd.R_alloc (Kd.R_lower (Kd.R_mono (Kd.R_bound h) (fun k hk => ⟨hk.2.1, hk.2.2.1⟩)) hb) o
theorem list_apart (h : NodeRow w base v outs) {b : Nat} (hb : w.heap.size ≤ b) : some b ≠ v.ownBlock := fun e => by
 have := Kd.S_lt h b e.symm
 omega
theorem list_old (h : NodeRow w base v outs) (hb : Below w.heap.size w w3) (o : Obj) : Kd.S k95 95 (w3.alloc o) base (fun k => True ∧ ¬ (w.heap.size ≤ k ∧ k < w3.heap.size)) v outs :=
 Kd.S_mono (Kd.S_old h (hb.alloc hb.size o)) (fun k hk => ⟨trivial, fun h2 => by have := hk.2; omega⟩)
theorem list_below (hb : Below w.heap.size w w3) (h : base ≤ w.heap.size) (o : Obj) : Below base w (w3.alloc o) := (hb.alloc hb.size o).mono h
theorem list_size (hb : Below w.heap.size w w3) (h : base ≤ w.heap.size) (o : Obj) : base ≤ (w3.alloc o).heap.size := by
 have := hb.size
 simp
 omega
theorem list_next {x : TW} {k : Fo TW} {A Ak : Option Addr} {c ck : Nat} {up : Value} {pl : Int} {o : Obj} (hb : Below w.heap.size w w3) (hr : NodeRow w base v outs) (hx : w.heap[x.b]? = some (.cells (twigCells x.n A c (.slice Ak (bsOf k).length ck) up pl) 99 (0, 0)))
  (hrow : PtrRow w b0 (.slice Ak (bsOf k).length ck) (bsOf k)) (hbw : Below w0.heap.size w0 w) (hkf : IsF w0 w b0 (ptr x.b) 0 k)
  (hs : Kd.S k95 95 w4 base (fun _ => True) v4 (outs ++ [⟨x.n.f0, x.n.f1, x.n.f2, x.n.f3, x.n.f4, ((bsOf k).length : Int)⟩])) (hb4 : Below base w w4) (hg : (w3.alloc o).grownBy w4 v.ownBlock) (hm : v4.ownBlock = v.ownBlock ∨ ∃ b, v4.ownBlock = some b ∧ (w3.alloc o).heap.size ≤ b)
  (hbase : base ≤ w.heap.size) (hkids : x.n.f5 = (len k : Int)) (hbl : (bsOf k).length = len k) :
  w4.heap[x.b]? = some (.cells (twigCells x.n A c (.slice Ak (bsOf k).length ck) up pl) 99 (0, 0)) ∧ NodeRow w4 base v4 (outs ++ [x.n]) ∧ Kept w w4 (fun b => v.ownBlock = some b) ∧ (∀ B, B ≤ base → Below B w w4) ∧ (v4.ownBlock = v.ownBlock ∨ ∃ b, v4.ownBlock = some b ∧ w.heap.size ≤ b) := by
 have e : (⟨x.n.f0, x.n.f1, x.n.f2, x.n.f3, x.n.f4, ((bsOf k).length : Int)⟩ : S95) = x.n := by rw [hbl, ← hkids]
 rw [e] at hs
 have hk4 : Kept w w4 (fun b => v.ownBlock = some b) := Kept.of_grown hg (Kept.of_below (hb.alloc hb.size o) _) (fun k hk => .inl hk)
 refine ⟨(hk4.2 _ (blk_lt hx) (fun e => Kd.S_ne hr hx (by decide) e.symm)).trans hx, hs, hk4, fun B hB => hb4.mono hB, ?_⟩
 rcases hm with h | ⟨b, h1, h2⟩
 ·exact .inl h
 ·exact .inr ⟨b, h1, by have := hb.size; simp at h2; omega⟩
end
theorem list_step (w0 : World) (b0 base : Nat) (hw0 : w0.heap.size ≤ base) (x : TW) (k : Fo TW) (up : Value) (i : Nat) (w : World) (v : Value) (outs : List S95)
  (ih : ∀ (y : TW) (l : Fo TW) (j : Nat) (w : World) (v : Value) (outs : List S95), size l < size k → IsF w0 w b0 (ptr x.b) j (.node y l .nil) → Below w0.heap.size w0 w → NodeRow w base v outs → base ≤ w.heap.size → outs.length + size l + 1 ≤ 1000000000 →
   Calls Tryz.prog 77 #[ptr y.b, v] w (ListEnd w base v (outs ++ nodesOf (.node y l .nil))))
  (hf : IsF w0 w b0 up i (.node x k .nil)) (hb : Below w0.heap.size w0 w) (hr : NodeRow w base v outs) (hbase : base ≤ w.heap.size) (hn : outs.length + size k + 1 ≤ 1000000000) :
  Calls Tryz.prog 77 #[ptr x.b, v] w (ListEnd w base v (outs ++ nodesOf (.node x k .nil))) := by
 have hun := Tryz.underlying95
 have huw := Tryz.underlying99
 obtain ⟨⟨⟨A, c, ⟨ha1, ha2, ha3⟩, hx⟩, hxb, hkids, hrow⟩, hkf, _⟩ := hf
 have ha4 := attrs_nil ha3
 have hca := Kd.C_below ha3 hb
 obtain ⟨Ak, ck, hkv⟩ := Kd.R_slice hrow
 rw [hkv] at hx hrow
 have hbl := bsOf_length k
 obtain ⟨⟨hx0, hx1, hx2, hx3, hx4, hx5⟩, hx6, _, _, _⟩ := twig_cells hx
 have HX := am hx
 have HROW := am hrow
 have HIH := am ih
 have HKF := am hkf
 have HR := am hr
 have HALL := am (And.intro hb (And.intro hbase (And.intro hn (And.intro hkids (And.intro hkv hbl)))))
 have HCL := am (cloneNode_calls A c x.n w hca ha2 ha4 ha1)
 clear hx hrow ih hkf hr hb hbase hn hkids hkv ha1 ha2 ha3 ha4 hca hbl
 unfold ptr
 go_enter Tryz.func77, Tryz.ntmps77
 go_wp2_with (first | (go_at_call 84; refine HCL.out.mono ?_; rintro e w3 ⟨v3, rfl, hr3, hb3⟩; obtain ⟨A3, c3, e3⟩ := Kd.R_slice hr3; subst e3; have HB3 := am (And.intro hb3 hr3); have h36 := (hb3.cell (World.block_lt_of_cell? w _ hx6)).trans hx6; have h36a : ∀ o, (w3.alloc o).cell? ⟨x.b, 6, none⟩ = some (.slice Ak (bsOf k).length ck) := (fun o => by rw [← h36]; exact World.cell?_of_block (w := w3) (Below.heap_alloc w3 o x.b (World.block_lt_of_cell? w3 _ h36))); clear hx0 hx1 hx2 hx3 hx4 hx5 hx6 hb3 hr3) | ((with_reducible refine gate_builtin (b := .append) (xs := #[.tmp 19, .tmp 21]) rfl ?_); at_builtin; refine Kd.S_append k95 (w0 := w) base rfl (.tmp 19) (.tmp 21) 29 95 (.agg #[.int .i64 0, .int .i64 0, .string ⟨#[]⟩, .slice none 0 0, .string ⟨#[]⟩, .int .i64 0]) 80 rfl Tryz.underlying29 infoN rfl (by decide) (by omega) v outs (⟨x.n.f0, x.n.f1, x.n.f2, x.n.f3, x.n.f4, ((bsOf k).length : Int)⟩ : S95) _ (fun _ => True) (fun b => w.heap.size ≤ b ∧ b < w3.heap.size) rfl (by simp [Act.eval]) (k95_mkM _ _ _ (⟨x.n.f0, x.n.f1, x.n.f2, x.n.f3, x.n.f4, ((bsOf k).length : Int)⟩ : S95) (list_row HB3.out.2 HALL.out.2.1 _)) (fun b hb => ⟨trivial, list_apart HR.out hb.1⟩) (fun _ _ => trivial) (list_old HR.out HB3.out.1 _) (list_below HB3.out.1 HALL.out.2.1 _) (list_size HB3.out.1 HALL.out.2.1 _) ?aL ?_; (case aL => have := HALL.out.2.2.1; omega); intro v4 w4 hs4 hb4 hg4 hm4; have H4 := am (list_next HB3.out.1 HR.out HX.out HROW.out HALL.out.1 (HKF.out) hs4 hb4 hg4 hm4 HALL.out.2.1 HALL.out.2.2.2.1 HALL.out.2.2.2.2.2); clear hs4 hb4 hg4 hm4 h36a h36; have h46 : w4.cell? ⟨x.b, 6, none⟩ = some (.slice Ak (bsOf k).length ck) := blk_cell H4.out.1 6; clear HB3))
 have HROW4 := am (show ∀ wr, Kept w wr (fun b => v.ownBlock = some b) → PtrRow wr b0 (.slice Ak (bsOf k).length ck) (bsOf k) from fun wr hk => row_keep HROW.out (fun b hb => hk.2 b (row_base HROW.out b hb).2 (fun e => by
  obtain ⟨cs, hc⟩ := row_typed HROW.out b hb
  exact Kd.S_ne HR.out hc (by decide) e.symm)))
 have HKF4 := am (show ∀ wr, Kept w wr (fun b => v.ownBlock = some b) → IsF w0 wr b0 (ptr x.b) 0 k from fun wr hk => HKF.out.kept hk (fun b hb _ => by
  obtain ⟨cs, hc⟩ := Kd.S_typed HR.out b hb
  exact ⟨cs, _, hc, by decide, by decide⟩))
 have hkl : ((bsOf k).length : Int) ≤ 1000000000 := by have := HALL.out.2.2.1; have := HALL.out.2.2.2.2.2; have := len_size k; omega
 clear h46
 go_loopg [1, 28] (len k + 1) (fun kq v1 v28 wr => ∃ (j : Nat) (vj : Value), vj = v1 ∧ v28 = .int .i64 j ∧ Aside0 (j + kq = len k + 1 ∧ j ≤ len k) ∧ Aside0 (NodeRow wr base vj (outs ++ [x.n] ++ nodesOf (ftake j k))) ∧ Aside0 (Kept w wr (fun b => v.ownBlock = some b)) ∧ Aside0 (∀ B, B ≤ base → Below B w wr) ∧ Aside0 (vj.ownBlock = v.ownBlock ∨ ∃ b, vj.ownBlock = some b ∧ w.heap.size ≤ b))
 case atStart => exact ⟨0, _, rfl, rfl, ⟨by omega, by omega⟩, ⟨by simpa [ftake, nodesOf, flat] using H4.out.2.1⟩, ⟨H4.out.2.2.1⟩, ⟨H4.out.2.2.2.1⟩, ⟨H4.out.2.2.2.2⟩⟩
 case round =>
  clear H4
  obtain ⟨j, vj, rfl, rfl, HJ, HRj, HKj, HBj, HVj⟩ := hrel
  by_cases hlt : j < len k
  ·obtain ⟨y, l, hd, ht⟩ := drop_node j k hlt
   obtain ⟨g, cap, e, _⟩ := Kd.R_form HROW.out (by rw [HALL.out.2.2.2.2.2]; omega)
   injection e with e1 _ e3
   subst e1
   subst e3
   have hcell := (Kd.R_cell (0 : Nat) (HROW4.out wr HKj.out) (j : Int) (by omega) (by rw [HALL.out.2.2.2.2.2]; omega)).1
   have hyb : rdOf 0 (bsOf k) (j : Int) = y.b := by
    unfold rdOf bsOf
    rw [Int.toNat_natCast, List.getD_eq_getElem?_getD, List.getElem?_map, ht]
    rfl
   rw [hyb, Int.toNat_natCast] at hcell
   have hd1 : decide ((j : Int) < ((bsOf k).length : Int)) = true := decide_eq_true (by rw [HALL.out.2.2.2.2.2]; omega)
   have hd2 : decide (j < (bsOf k).length) = true := decide_eq_true (by rw [HALL.out.2.2.2.2.2]; omega)
   have hd3 : j < (bsOf k).length := by rw [HALL.out.2.2.2.2.2]; omega
   have hj62 : (j : Int) ≤ 1000000000 := by omega
   have hfj : IsF w0 wr b0 (ptr x.b) (0 + j) (.node y l .nil) := by
    have := (HKF4.out wr HKj.out).drop j k _ _
    rw [hd] at this
    exact ⟨this.1, this.2.1, trivial⟩
   have hsz : size (ftake j k) + size l + 1 ≤ size k := by
    have h1 := congrArg size (take_drop j k)
    rw [size_app, hd] at h1
    simp only [size] at h1
    omega
   have HC := am (HIH.out y l (0 + j) wr vj (outs ++ [x.n] ++ nodesOf (ftake j k)) (size_kid hd) hfj (HALL.out.1.trans (HBj.out _ hw0)) HRj.out (Nat.le_trans HALL.out.2.1 HKj.out.1) (by rw [List.length_append, List.length_append, nodesOf_length, List.length_singleton]; have := HALL.out.2.2.1; omega))
   have HD := am hd
   clear hfj hsz hd ht hyb hlt
   unfold ptr at hcell HC
   go_wp2_with (first | (go_at_call 77; refine HC.out.mono ?_; rintro e w5 ⟨v5, rfl, hr5, hk5, hb5, hv5⟩; have H5 := am (And.intro hr5 (And.intro hk5 (And.intro hb5 hv5))); clear hr5 hk5 hb5 hv5))
   have hjj : (j : Int) + 1 = ((j + 1 : Nat) : Int) := by omega
   go_roundg (gk - 1)
   case measure => have := HJ.out; omega
   case rel =>
    refine ⟨j + 1, v5, rfl, by rw [hjj], ⟨by have := HJ.out; omega, by have := HALL.out.2.2.2.2.2; omega⟩, ⟨?_⟩, ⟨HKj.out.then_ H5.out.2.1 (fun b hb => ?_)⟩, ⟨fun B hB => (HBj.out B hB).trans (H5.out.2.2.1 B hB)⟩, ⟨?_⟩⟩
    ·have := H5.out.1
     rw [List.append_assoc, ← nodesOf_app, ← take_succ j k y l _ HD.out] at this
     exact this
    ·rcases HVj.out with h | ⟨b', h1, h2⟩
     ·exact .inl (by rw [← h]; exact hb)
     ·rw [h1] at hb
      injection hb with hb
      exact .inr (by omega)
    ·rcases H5.out.2.2.2 with h | ⟨b', h1, h2⟩
     ·rw [h]; exact HVj.out
     ·exact .inr ⟨b', h1, Nat.le_trans HKj.out.1 h2⟩
  ·have hjk : j = len k := by have := HJ.out; omega
   have hd1 : decide ((j : Int) < ((bsOf k).length : Int)) = false := decide_eq_false (by rw [HALL.out.2.2.2.2.2]; omega)
   have hd2 : decide (j < (bsOf k).length) = false := decide_eq_false (by rw [HALL.out.2.2.2.2.2]; omega)
   have HE := am (show NodeRow wr base vj (outs ++ nodesOf (.node x k .nil)) by
    have := HRj.out
    rw [hjk, take_all] at this
    rw [nodesOf_node]
    simpa [nodesOf, flat] using this)
   clear hjk hlt
   go_wp2
   go_ret
   exact ⟨vj, rfl, HE.out, HKj.out, HBj.out, HVj.out⟩
theorem list_calls (w0 : World) (b0 base : Nat) (hw0 : w0.heap.size ≤ base) : ∀ (d : Nat) (x : TW) (k : Fo TW) (up : Value) (i : Nat) (w : World) (v : Value) (outs : List S95), size k < d → IsF w0 w b0 up i (.node x k .nil) → Below w0.heap.size w0 w → NodeRow w base v outs → base ≤ w.heap.size → outs.length + size k + 1 ≤ 1000000000 →
  Calls Tryz.prog 77 #[ptr x.b, v] w (ListEnd w base v (outs ++ nodesOf (.node x k .nil)))
 | 0, _, _, _, _, _, _, _, h, _, _, _, _, _ => absurd h (Nat.not_lt_zero _)
 | d + 1, x, k, up, i, w, v, outs, h, hf, hb, hr, hbase, hn =>
  list_step w0 b0 base hw0 x k up i w v outs (fun y l j w v outs hl hf hb hr hbase hn => list_calls w0 b0 base hw0 d y l (ptr x.b) j w v outs (by omega) hf hb hr hbase hn) hf hb hr hbase hn
end Go.Proofs.YthjgohbkpjhkeaaGreatDoor.Impl
set_option maxHeartbeats 4000000
set_option maxRecDepth 100000
namespace Go.Proofs.YthjgohbkpjhkeaaGreatDoor.Impl
open Go.RowKit Go.Proofs.YthjgohbkpjhkeaaGreatDoorW.PrintWords Go.Proofs.YthjgohbkpjhkeaaGreatDoorW.PrintLast Go.Proofs.YthjgohbkpjhkeaaGreatDoorW.PrintMore Go.Proofs.YthjgohbkpjhkeaaGreatDoor.PFnExactDo Go.Proofs.YthjgohbkpjhkeaaGreatDoor.MapLib Go.Proofs.YthjgohbkpjhkeaaGreatDoor.FireSpec Go.Proofs.YthjgohbkpjhkeaaGreatDoor.Tr Go.Proofs.YthjgohbkpjhkeaaGreatDoor.Fo
def nextId : Fo TW → Int
 | .nil => -1
 | .node x _ _ => x.n.f0
structure KidAt (w0 w : World) (base pb : Nat) (n2 : S95) (A2 : Option Addr) (c2 : Nat) (kv2 up2 : Value) (pl2 : Int) (kf : Fo TW) (i : Nat) (x : TW) (k r : Fo TW) : Prop where
 par : TwigB w pb n2 A2 c2 kv2 up2 pl2
 row : PtrRow w base kv2 (bsOf kf)
 kids : IsF w0 w base (ptr pb) 0 kf
 dr : fdrop i kf = .node x k r
 lt : i < len kf
 nd : (bsOf kf).Nodup
 pn : pb ∉ bsOf kf
 bp : base ≤ pb
 bb : base ≤ w.heap.size
 sz : size kf ≤ 100000000
 b0 : Below w0.heap.size w0 w
theorem len_size' (f : Fo TW) : len f ≤ size f := by
 induction f with
 | nil => simp [len, size]
 | node x k r _ ih => simp only [len, size]; omega
theorem fdrop_next {x : TW} {k r : Fo TW} : ∀ (i : Nat) (f : Fo TW), fdrop i f = .node x k r → fdrop (i + 1) f = r
 | 0, .nil, h => by cases h
 | 0, .node _ _ _, h => by simp only [fdrop] at h; injection h
 | i + 1, .nil, h => by cases h
 | i + 1, .node _ _ r', h => by simp only [fdrop] at h ⊢; exact fdrop_next i r' h
theorem bsOf_drop (i : Nat) (f : Fo TW) : bsOf (fdrop i f) = (bsOf f).drop i := by simp [bsOf, tops_drop]
theorem bsOf_take (i : Nat) (f : Fo TW) : bsOf (ftake i f) = (bsOf f).take i := by simp [bsOf, tops_take]
section
variable {w0 w W : World} {base pb : Nat} {n2 : S95} {A2 : Option Addr} {c2 : Nat} {kv2 up2 : Value} {pl2 : Int} {kf : Fo TW} {i : Nat} {x : TW} {k r : Fo TW}
theorem KidAt.below (h : KidAt w0 w base pb n2 A2 c2 kv2 up2 pl2 kf i x k r) (hb : Below w.heap.size w W) : KidAt w0 W base pb n2 A2 c2 kv2 up2 pl2 kf i x k r :=
 ⟨blk_below h.par hb, Kd.R_below h.row hb, h.kids.below hb, h.dr, h.lt, h.nd, h.pn, h.bp, Nat.le_trans h.bb hb.size, h.sz, below_step h.b0 hb⟩
theorem KidAt.own (h : KidAt w0 w base pb n2 A2 c2 kv2 up2 pl2 kf i x k r) : IsF w0 w base (ptr pb) i (.node x k .nil) := by
 have := h.kids.drop i kf _ _
 rw [h.dr, Nat.zero_add] at this
 exact ⟨this.1, this.2.1, trivial⟩
theorem KidAt.len (h : KidAt w0 w base pb n2 A2 c2 kv2 up2 pl2 kf i x k r) : (bsOf kf).length ≤ 100000000 := by
 rw [bsOf_length]; exact Nat.le_trans (len_size' _) h.sz
theorem KidAt.at_ (h : KidAt w0 w base pb n2 A2 c2 kv2 up2 pl2 kf i x k r) : (bsOf kf)[i]? = some x.b := by
 have h1 : (bsOf kf).drop i = x.b :: bsOf r := by rw [← bsOf_drop, h.dr]; rfl
 have h2 : ((bsOf kf).drop i)[0]? = some x.b := by rw [h1]; rfl
 simpa using h2
theorem KidAt.typed (h : KidAt w0 w base pb n2 A2 c2 kv2 up2 pl2 kf i x k r) : ∀ b ∈ bsOf kf, ∃ n A c kv up pl, TwigB w b n A c kv up pl := by
 have key : ∀ (f : Fo TW) (up : Value) (i : Nat), IsF w0 w base up i f → ∀ b ∈ bsOf f, ∃ n A c kv up pl, TwigB w b n A c kv up pl := by
  intro f
  induction f with
  | nil => intro up i _ b hb; simp [bsOf, tops] at hb
  | node x k r _ ih =>
   intro up i h b hb
   simp only [bsOf, tops, List.map_cons, List.mem_cons] at hb
   rcases hb with rfl | hb
   ·obtain ⟨A, c, _, ht⟩ := h.1.1
    exact ⟨_, _, _, _, _, _, ht⟩
   ·exact ih _ _ h.2.2 b hb
 exact key kf _ _ h.kids
theorem KidAt.lo (h : KidAt w0 w base pb n2 A2 c2 kv2 up2 pl2 kf i x k r) : ∀ b ∈ bsOf kf, base ≤ b := fun b hb => (h.kids.typed kf _ _ b (bsOf_foot kf b hb)).1
theorem KidAt.after (h : KidAt w0 w base pb n2 A2 c2 kv2 up2 pl2 kf i x k r) : Calls Tryz.prog 161 #[ptr x.b] w fun e w' => e = .returned (.int .i64 (nextId r)) ∧ ∃ m, w' = w.drewN m := by
 obtain ⟨A, c, _, hx⟩ := h.own.1.1
 have hl := h.len
 have hlt := h.lt
 rw [← bsOf_length] at hlt
 have hnx := fdrop_next i kf h.dr
 have hlen : (bsOf r).length = (bsOf kf).length - (i + 1) := by rw [← hnx, bsOf_drop, List.length_drop]
 cases hr : r with
 | nil =>
  have : (bsOf r).length = 0 := by rw [hr]; rfl
  refine (after_calls w base x.b pb i x.n n2 A A2 c c2 x.kv kv2 up2 pl2 (bsOf kf) hx h.par h.row hlt (by omega) (-1) (fun hi => by omega)).mono (fun e w' he => ?_)
  rw [if_neg (by omega)] at he
  exact he
 | node x2 k2 r2 =>
  have h2 := h.kids.drop (i + 1) kf _ _
  rw [hnx, hr] at h2
  obtain ⟨A3, c3, _, hx3⟩ := h2.1.1
  have hg : (bsOf kf).getD (i + 1) 0 = x2.b := by
   have e1 : (bsOf kf).drop (i + 1) = x2.b :: bsOf r2 := by rw [← bsOf_drop, hnx, hr]; rfl
   have e2 : ((bsOf kf).drop (i + 1))[0]? = some x2.b := by rw [e1]; rfl
   rw [List.getD_eq_getElem?_getD, show (bsOf kf)[i + 1]? = some x2.b by simpa using e2]
   rfl
  have hlr : (bsOf r).length = (bsOf r2).length + 1 := by rw [hr]; rfl
  refine (after_calls w base x.b pb i x.n n2 A A2 c c2 x.kv kv2 up2 pl2 (bsOf kf) hx h.par h.row hlt (by omega) x2.n.f0 (fun hi => ⟨x2.n, A3, c3, x2.kv, _, _, by rw [hg]; exact hx3, rfl⟩)).mono (fun e w' he => ?_)
  rw [if_pos (by omega)] at he
  exact he
theorem KidAt.list (h : KidAt w0 w base pb n2 A2 c2 kv2 up2 pl2 kf i x k r) (b1 : Nat) (h1 : w0.heap.size ≤ b1) (h2 : b1 ≤ w.heap.size) : Calls Tryz.prog 77 #[ptr x.b, .slice none 0 0] w fun e w' => ∃ A c, e = .returned (.slice A (nodesOf (.node x k .nil)).length c) ∧ NodeRow w' b1 (.slice A (nodesOf (.node x k .nil)).length c) (nodesOf (.node x k .nil)) ∧ Below w.heap.size w w' := by
 have hs : size k + 1 ≤ size kf := by
  have e := congrArg size (take_drop i kf)
  rw [size_app, h.dr] at e
  simp only [size] at e
  omega
 refine (list_calls w0 base w.heap.size (by have := h.b0.size; omega) (size k + 1) x k (ptr pb) i w (.slice none 0 0) [] (by omega) h.own h.b0 (Kd.S_nil _ _ _ _ _) (Nat.le_refl _) (by have := h.sz; simp; omega)).mono (fun e w' he => ?_)
 obtain ⟨v', rfl, hr, hk, hb, _⟩ := he
 rw [List.nil_append] at hr
 obtain ⟨A, c, rfl⟩ := Kd.S_slice hr
 exact ⟨A, c, rfl, Kd.S_lower hr h2, hb _ (Nat.le_refl _)⟩
theorem KidAt.take (h : KidAt w0 w base pb n2 A2 c2 kv2 up2 pl2 kf i x k r) : Calls Tryz.prog 162 #[ptr pb, ptr x.b] w fun e w' => e = .returned (.tuple #[]) ∧ Regr w w' base pb n2 A2 c2 kv2 up2 pl2 ((bsOf kf).eraseIdx i) := by
 obtain ⟨A, c, _, hx⟩ := h.own.1.1
 have hlt := h.lt
 rw [← bsOf_length] at hlt
 exact take_calls w base pb x.b i n2 A2 c2 kv2 up2 pl2 (bsOf kf) h.par h.row hlt ⟨_, _, _, _, _, hx⟩ h.typed h.nd h.pn (by have := h.len; omega) h.bp h.lo h.bb
end
theorem Regr.wrap {w w4 w5 w' : World} {base b : Nat} {n : S95} {A : Option Addr} {c : Nat} {kv up : Value} {pl : Int} {bs' : List Nat} (hb : Below w.heap.size w w4) (h : Regr w4 w5 base b n A c kv up pl bs') (hx : TwigB w b n A c kv up pl) (ht : ∀ k ∈ bs', k < w.heap.size) (hbase : base ≤ w.heap.size) (z : Nat) (hz : w.heap.size ≤ z) (hzt : ∃ cs t, w4.heap[z]? = some (.cells cs t (0, 0)) ∧ t ≠ 99 ∧ t ≠ 97 ∧ w5.heap[z]? = some (.cells cs t (0, 0)))
  (hs : w'.heap.size = w5.heap.size) (hk : ∀ k, k ≠ z → w'.heap[k]? = w5.heap[k]?) (hB : ∀ B w0, Below B w0 w5 → B ≤ z → Below B w0 w') : Regr w w' base b n A c kv up pl bs' := by
 obtain ⟨cs, t, hz1, ht1, ht2, hz2⟩ := hzt
 obtain ⟨kv', h1, h2, h3⟩ := h.ex
 have hsz := hb.size
 have hb1 := blk_lt hx
 refine ⟨⟨kv', (hk b (by omega)).trans h1, row_keep h2 (fun k hk2 => hk k (fun e => ?_)), ?_⟩, fun j hj n A c kv up pl ht2 => ?_, ?_, fun B hB2 => hB _ _ ((hb.mono (by omega)).trans (h.below B hB2)) (by omega)⟩
 ·obtain ⟨cs2, h4⟩ := row_typed h2 k hk2
  rw [e, hz2] at h4
  injection h4 with h4
  injection h4 with _ h4
  exact ht2 h4
 ·rcases h3 with h | ⟨k, h4, h5⟩
  ·exact .inl h
  ·exact .inr ⟨k, h4, by omega⟩
 ·have h4 := h.kids j hj n A c kv up pl (blk_below ht2 hb)
  exact (hk _ (fun e => by have := blk_lt ht2; omega)).trans h4
 ·refine ⟨by have := h.kept.1; omega, fun k hk1 hk2 => ?_⟩
  rw [hk k (by omega)]
  exact (h.kept.2 k (by omega) hk2).trans (hb.block k hk1)
theorem cell_sets8 {w : World} {b : Nat} {a : Addr} (h : a.block ≠ b) (v0 v1 v2 v3 v4 v5 v6 v7 : Value) : ((((((((w.setCell ⟨b, 0, none⟩ v0).setCell ⟨b, 1, none⟩ v1).setCell ⟨b, 2, none⟩ v2).setCell ⟨b, 3, none⟩ v3).setCell ⟨b, 4, none⟩ v4).setCell ⟨b, 5, none⟩ v5).setCell ⟨b, 6, none⟩ v6).setCell ⟨b, 7, none⟩ v7).cell? a = w.cell? a := by
 have key : ∀ (W : World) (j : Nat) (v : Value), (W.setCell ⟨b, j, none⟩ v).cell? a = W.cell? a := fun W j v => World.cell?_of_block (w := W) (Below.heap_setCell W ⟨b, j, none⟩ v a.block h)
 rw [key, key, key, key, key, key, key, key]
theorem rem_new {w w2 w5 w6 : World} {A5 : Option Addr} {c5 : Nat} {F : Chg} (hr : NodeRow w5 w.heap.size (.slice A5 F.f7.length c5) F.f7) (h5 : Below w2.heap.size w2 w5) (hs : w.heap.size ≤ w2.heap.size) (h6 : w6 = w5.alloc (mbox8 F A5 c5 33)) :
  Below w2.heap.size w2 w6 ∧ w2.heap.size ≤ w5.heap.size ∧ ∃ A' c', w6.heap[w5.heap.size]? = some (mbox8 F A' c' 33) ∧ NodeRow w6 w.heap.size (.slice A' F.f7.length c') F.f7 := by
 subst h6
 exact ⟨h5.alloc h5.size _, h5.size, A5, c5, blk_newest w5 _, Kd.S_alloc hr _⟩
theorem rem_set {w w2 w5 w6 : World} {A5 : Option Addr} {c5 : Nat} {F : Chg} (hr : NodeRow w5 w.heap.size (.slice A5 F.f7.length c5) F.f7) (h5 : Below w2.heap.size w2 w5) (hs : w.heap.size ≤ w2.heap.size) (hZ : w5.heap[w2.heap.size]? = some (mbox8 ⟨0, 0, 0, 0, ⟨#[]⟩, ⟨#[]⟩, 0, []⟩ none 0 33))
  (h6 : w6 = ((((((((w5.setCell ⟨w2.heap.size, 0, none⟩ (.int .i64 F.f0)).setCell ⟨w2.heap.size, 1, none⟩ (.int .i64 F.f1)).setCell ⟨w2.heap.size, 2, none⟩ (.int .i64 F.f2)).setCell ⟨w2.heap.size, 3, none⟩ (.int .i64 F.f3)).setCell ⟨w2.heap.size, 4, none⟩ (.string F.f4)).setCell ⟨w2.heap.size, 5, none⟩ (.string F.f5)).setCell ⟨w2.heap.size, 6, none⟩ (.int .i64 F.f6)).setCell ⟨w2.heap.size, 7, none⟩ (.slice A5 F.f7.length c5))) :
  Below w2.heap.size w2 w6 ∧ w2.heap.size ≤ w2.heap.size ∧ ∃ A' c', w6.heap[w2.heap.size]? = some (mbox8 F A' c' 33) ∧ NodeRow w6 w.heap.size (.slice A' F.f7.length c') F.f7 := by
 obtain ⟨a1, a2, a3, a4⟩ := set8 hZ h6
 refine ⟨a4 _ _ h5 (Nat.le_refl _), Nat.le_refl _, A5, c5, a1, ?_⟩
 exact Kd.S_mono (Kd.S_move (Kd.S_types hr hZ (by decide)) (fun k hk => a2 k hk.2)) (fun _ _ => trivial)
theorem remove_do (w0 w : World) (g : Nat) (ns : List S95) (bs : List Nat) (C : Chg) (A : Option Addr) (c : Nat) (hg : GMap w g ns bs) (hl : bs.length = ns.length) (hd : (ns.map (·.f0)).Nodup) (j : Nat) (hp : place ns C.f1 = some j) (base pb : Nat) (n2 : S95) (A2 : Option Addr) (c2 : Nat) (kv2 up2 : Value) (pl2 : Int) (kf : Fo TW) (i : Nat) (x : TW) (k r : Fo TW) (hK : KidAt w0 w base pb n2 A2 c2 kv2 up2 pl2 kf i x k r) (hxb : x.b = bs.getD j 0) :
  Calls Tryz.prog 159 #[chv C A c, .pointer (some ⟨g, 0, none⟩)] w fun e w' => ∃ A' c', e = .returned (chv ⟨1, 0, n2.f0, nextId r, ⟨#[]⟩, ⟨#[]⟩, 0, nodesOf (.node x k .nil)⟩ A' c') ∧ NodeRow w' w.heap.size (.slice A' (nodesOf (.node x k .nil)).length c') (nodesOf (.node x k .nil)) ∧ Regr w w' base pb n2 A2 c2 kv2 up2 pl2 ((bsOf kf).eraseIdx i) := by
 have hut := Tryz.underlying33
 have HL := am (And.intro hl hd)
 have HG := am hg
 have HLK := am (show lkv ns bs C.f1 = .pointer (some ⟨x.b, 0, none⟩) by unfold lkv; rw [hp, hxb]; rfl)
 have HK := am hK
 obtain ⟨xb, hxb'⟩ : ∃ xb, xb = x.b := ⟨_, rfl⟩
 obtain ⟨nid, hnid⟩ : ∃ nid, nid = nextId r := ⟨_, rfl⟩
 obtain ⟨L, hL⟩ : ∃ L, L = nodesOf (.node x k .nil) := ⟨_, rfl⟩
 have HAF := am (show ∀ W, Below w.heap.size w W → Calls Tryz.prog 161 #[.pointer (some ⟨xb, 0, none⟩)] W fun e w' => e = .returned (.int .i64 nid) ∧ ∃ m, w' = W.drewN m from fun W hW => by rw [hxb', hnid]; exact (hK.below hW).after)
 have HLS := am (show ∀ W, Below w.heap.size w W → Calls Tryz.prog 77 #[.pointer (some ⟨xb, 0, none⟩), .slice none 0 0] W fun e w' => ∃ A c, e = .returned (.slice A L.length c) ∧ NodeRow w' w.heap.size (.slice A L.length c) L ∧ Below W.heap.size W w' from fun W hW => by rw [hxb', hL]; exact (hK.below hW).list w.heap.size hK.b0.size hW.size)
 have HTK := am (show ∀ W, Below w.heap.size w W → Calls Tryz.prog 162 #[.pointer (some ⟨pb, 0, none⟩), .pointer (some ⟨xb, 0, none⟩)] W fun e w' => e = .returned (.tuple #[]) ∧ Regr W w' base pb n2 A2 c2 kv2 up2 pl2 ((bsOf kf).eraseIdx i) from fun W hW => by rw [hxb']; exact (hK.below hW).take)
 have HX := am (show ∃ A1 c1, TwigB w xb x.n A1 c1 x.kv (ptr pb) i by obtain ⟨A1, c1, _, hx⟩ := hK.own.1.1; exact ⟨A1, c1, by rw [hxb']; exact hx⟩)
 rw [← hnid, ← hL]
 rw [← hxb'] at HLK
 clear hg hl hd hp hK hxb hxb' hnid hL
 go_enter Tryz.func159, Tryz.ntmps159
 go_wp2_with fail
 generalize hw1 : World.alloc _ _ = w1
 have h1 : Below w.heap.size w w1 ∧ w1.heap[w.heap.size]? = some (mbox8 C A c 160) ∧ w1.heap[w.heap.size + 1]? = some (mbox8 ⟨0, 0, 0, 0, ⟨#[]⟩, ⟨#[]⟩, 0, []⟩ none 0 33) ∧ w1.heap.size = w.heap.size + 2 := by
  subst hw1
  refine ⟨((Below.refl _ w).alloc (Nat.le_refl _) _).alloc (by simp) _, blk_below (blk_newest w _) ((Below.refl _ _).alloc (Nat.le_refl _) _), ?_, by simp⟩
  have := blk_newest (w.alloc (mbox8 C A c 160)) (mbox8 ⟨0, 0, 0, 0, ⟨#[]⟩, ⟨#[]⟩, 0, []⟩ none 0 33)
  exact (congrArg (fun k => ((w.alloc (mbox8 C A c 160)).alloc (mbox8 ⟨0, 0, 0, 0, ⟨#[]⟩, ⟨#[]⟩, 0, []⟩ none 0 33)).heap[k]?) (by simp : (w.alloc (mbox8 C A c 160)).heap.size = w.heap.size + 1)).symm.trans this
 have H1 := am h1
 obtain ⟨x0, x1, x2, x3, x4, x5, x6, x7⟩ := cells8t h1.2.1
 obtain ⟨mb, _, hm, hq⟩ := (HG.out.below h1.1).look HL.out HLK.out
 clear h1 hw1
 go_quiet (fail)
 obtain ⟨w2, hw2⟩ : ∃ w2, w2 = w1.drewN nq := ⟨_, rfl⟩
 have H2 := am (show Below w.heap.size w w2 ∧ w2.heap = w1.heap from ⟨hw2 ▸ pw_below_drewN H1.out.1 _, hw2 ▸ rfl⟩)
 rw [← hw2]
 clear x0 x1 x2 x3 x4 x5 x6 x7 hm hq hw2
 obtain ⟨A1, c1, hx1⟩ := HX.out
 have hu := (twig_cells (blk_below hx1 H2.out.1)).2.2.1
 have hid := (twig_cells (blk_below HK.out.par H2.out.1)).1.1
 clear hx1
 unfold ptr at hu
 go_wp2_with fail
 go_cut [6] (fun v6 wc => ∃ bc, v6 = .pointer (some ⟨bc, 0, none⟩) ∧ Aside0 (Below w2.heap.size w2 wc ∧ w2.heap.size ≤ bc ∧ ∃ A' c', wc.heap[bc]? = some (mbox8 ⟨1, 0, n2.f0, nid, ⟨#[]⟩, ⟨#[]⟩, 0, L⟩ A' c' 33) ∧ NodeRow wc w.heap.size (.slice A' L.length c') L))
 case first =>
  have hbz : Below w2.heap.size w2 (w2.alloc (.cells #[.int .i64 0, .int .i64 0, .int .i64 0, .int .i64 0, .string ⟨#[]⟩, .string ⟨#[]⟩, .int .i64 0, .slice none 0 0] 33)) := (Below.refl _ w2).alloc (Nat.le_refl _) _
  have hzu := pw_cell_below hbz hu
  have hzi := pw_cell_below hbz hid
  have hzu2 : ∀ m, ((w2.drewN m).alloc (.cells #[.int .i64 0, .int .i64 0, .int .i64 0, .int .i64 0, .string ⟨#[]⟩, .string ⟨#[]⟩, .int .i64 0, .slice none 0 0] 33)).cell? ⟨xb, 7, none⟩ = _ := fun m => pw_cell_below ((Below.refl _ (w2.drewN m)).alloc (Nat.le_refl _) _) (show (w2.drewN m).cell? ⟨xb, 7, none⟩ = _ from hu)
  have hzi2 : ∀ m, ((w2.drewN m).alloc (.cells #[.int .i64 0, .int .i64 0, .int .i64 0, .int .i64 0, .string ⟨#[]⟩, .string ⟨#[]⟩, .int .i64 0, .slice none 0 0] 33)).cell? ⟨pb, 0, none⟩ = _ := fun m => pw_cell_below ((Below.refl _ (w2.drewN m)).alloc (Nat.le_refl _) _) (show (w2.drewN m).cell? ⟨pb, 0, none⟩ = _ from hid)
  have HB2 := am (And.intro H2.out.1 (below_step H2.out.1 hbz))
  have HB22 := am (And.intro (Below.refl w2.heap.size w2) hbz)
  have HNE := am (show xb ≠ w2.heap.size ∧ pb ≠ w2.heap.size from ⟨fun e => by have h1 := World.block_lt_of_cell? w2 _ hu; have h2 : xb < w2.heap.size := h1; omega, fun e => by have h1 := World.block_lt_of_cell? w2 _ hid; have h2 : pb < w2.heap.size := h1; omega⟩)
  clear hbz
  go_region_held3 (fun W => W.cell? ⟨xb, 7, none⟩ = some (.pointer (some ⟨pb, 0, none⟩)) ∧ W.cell? ⟨pb, 0, none⟩ = some (.int .i64 n2.f0)) (first | (with_reducible exact ⟨hu5, hid5⟩) | (with_reducible exact ⟨hu5z, hid5z⟩) | (with_reducible exact ⟨hu, hid⟩) | (with_reducible exact ⟨hzu, hzi⟩) | (with_reducible exact ⟨hzu2 _, hzi2 _⟩) | (with_reducible exact ⟨pw_cell_below ((Below.refl _ _).alloc (Nat.le_refl _) _) hu5, pw_cell_below ((Below.refl _ _).alloc (Nat.le_refl _) _) hid5⟩) | (with_reducible exact ⟨(cell_sets8 HNE.out.1 _ _ _ _ _ _ _ _).trans hu5, (cell_sets8 HNE.out.2 _ _ _ _ _ _ _ _).trans hid5⟩) | go_keep) (first | (go_at_call 161; refine (HAF.out _ (by repeat (first | exact HB2.out.1 | exact HB2.out.2 | apply pw_below_drewN | apply below_drew1 | refine below_step ?_ ((Below.refl _ _).alloc (Nat.le_refl _) _)))).mono ?_; rintro e w3 ⟨rfl, m, rfl⟩) | (go_at_call 77; refine (HLS.out _ (by repeat (first | exact HB2.out.1 | exact HB2.out.2 | apply pw_below_drewN | apply below_drew1 | refine below_step ?_ ((Below.refl _ _).alloc (Nat.le_refl _) _)))).mono ?_; rintro e w5 ⟨A5, c5, rfl, hr5, hb5⟩; obtain ⟨A1, c1, hx1⟩ := HX.out; have HB5 := am (below_step (show Below w.heap.size w _ from (by repeat (first | exact HB2.out.1 | exact HB2.out.2 | apply pw_below_drewN | apply below_drew1 | refine below_step ?_ ((Below.refl _ _).alloc (Nat.le_refl _) _)))) hb5); have HB25 := am (below_step (show Below w2.heap.size w2 _ from (by repeat (first | exact HB22.out.1 | exact HB22.out.2 | apply pw_below_drewN | apply below_drew1 | refine below_step ?_ ((Below.refl _ _).alloc (Nat.le_refl _) _)))) hb5); have hu5 := (twig_cells (blk_below hx1 HB5.out)).2.2.1; have hid5 := (twig_cells (blk_below HK.out.par HB5.out)).1.1; unfold ptr at hu5; have hb5z : Below w5.heap.size w5 (w5.alloc (.cells #[.int .i64 0, .int .i64 0, .int .i64 0, .int .i64 0, .string ⟨#[]⟩, .string ⟨#[]⟩, .int .i64 0, .slice none 0 0] 33)) := (Below.refl _ w5).alloc (Nat.le_refl _) _; have hu5z := pw_cell_below hb5z hu5; have hid5z := pw_cell_below hb5z hid5; (try (have hZ : w5.heap[w2.heap.size]? = some (mbox8 ⟨0, 0, 0, 0, ⟨#[]⟩, ⟨#[]⟩, 0, []⟩ none 0 33) := (by first | exact blk_below (blk_newest w2 _) hb5 | exact blk_below (blk_newest (w2.drewN _) _) hb5 | exact blk_below (blk_newest w2.drew _) hb5); obtain ⟨z0, z1, z2, z3, z4, z5, z6, z7⟩ := cells8t hZ; have hzf := fun k => blk_frozen hZ k; have HZ5 := am hZ; clear hZ)); have H5 := am (And.intro hr5 hb5); clear hr5 hb5 hx1 hb5z))
  all_goals
   go_wp2
   go_meet
   case rel =>
    first
    | (with_reducible refine ⟨w5.heap.size, rfl, ⟨?_⟩⟩); exact rem_new (F := ⟨1, 0, n2.f0, nid, ⟨#[]⟩, ⟨#[]⟩, 0, L⟩) H5.out.1 HB25.out H2.out.1.size rfl
    | (with_reducible refine ⟨w2.heap.size, rfl, ⟨?_⟩⟩); exact rem_set (F := ⟨1, 0, n2.f0, nid, ⟨#[]⟩, ⟨#[]⟩, 0, L⟩) H5.out.1 HB25.out H2.out.1.size HZ5.out rfl
 case rest =>
  obtain ⟨bc, rfl, H6⟩ := hcut
  clear hu hid
  have HB6 := am (below_step H2.out.1 H6.out.1)
  obtain ⟨A1, c1, hx1⟩ := HX.out
  have hu := (twig_cells (blk_below hx1 HB6.out)).2.2.1
  unfold ptr at hu
  clear hx1
  obtain ⟨A6, c6, hF6, hN6⟩ := H6.out.2.2
  have HF6 := am (And.intro hF6 hN6)
  have HZ6 := am (blk_below (show w2.heap[w.heap.size + 1]? = some (mbox8 ⟨0, 0, 0, 0, ⟨#[]⟩, ⟨#[]⟩, 0, []⟩ none 0 33) by rw [H2.out.2]; exact H1.out.2.2.1) H6.out.1)
  have HSM := am (show pb < w.heap.size ∧ (∀ k, kv2.ownBlock = some k → k < w.heap.size) ∧ ∀ k ∈ (bsOf kf).eraseIdx i, k < w.heap.size from ⟨blk_lt HK.out.par, fun k hk => (row_base HK.out.row k hk).2, fun k hk => (HK.out.kids.typed kf _ _ k (bsOf_foot kf k (List.mem_of_mem_eraseIdx hk))).2.1⟩)
  have HSZ := am (show w2.heap.size = w.heap.size + 2 ∧ w2.heap.size ≤ wc.heap.size ∧ bc < wc.heap.size from ⟨by rw [H2.out.2]; exact H1.out.2.2.2, H6.out.1.size, blk_lt hF6⟩)
  clear hF6 hN6
  go_wp2_with (first | (go_at_call 162; refine (HTK.out _ HB6.out).mono ?_; rintro e w7 ⟨rfl, hr7⟩; have H7 := am hr7; have K7 := am (show ∀ k, w.heap.size ≤ k → k < wc.heap.size → w7.heap[k]? = wc.heap[k]? from fun k hk1 hk2 => hr7.kept.2 k hk2 (fun e => by rcases e with e | e | e; (have := HSM.out.1; omega); (have := HSM.out.2.1 k e; omega); (have := HSM.out.2.2 k e; omega))); have HF7 := am ((K7.out bc (by have := H6.out.2.1; have := HSZ.out; omega) HSZ.out.2.2).trans HF6.out.1); have HZ7 := am ((K7.out (w.heap.size + 1) (by omega) (by have := HSZ.out; omega)).trans HZ6.out); obtain ⟨y0, y1, y2, y3, y4, y5, y6, y7⟩ := cells8t HF7.out; obtain ⟨z0, z1, z2, z3, z4, z5, z6, z7⟩ := cells8t HZ7.out; have hzf := fun k => blk_frozen HZ7.out k; clear hr7 hu))
  generalize hw8 : World.setCell _ _ _ = w8
  have h8 := set8 (C := ⟨1, 0, n2.f0, nid, ⟨#[]⟩, ⟨#[]⟩, 0, L⟩) (A := A6) (c := c6) HZ7.out hw8.symm
  clear hw8 y0 y1 y2 y3 y4 y5 y6 y7 z0 z1 z2 z3 z4 z5 z6 z7 hzf
  obtain ⟨z0, z1, z2, z3, z4, z5, z6, z7⟩ := cells8t h8.1
  refine bodyPost_ret (v := chv ⟨1, 0, n2.f0, nid, ⟨#[]⟩, ⟨#[]⟩, 0, L⟩ A6 c6) (by simp [results, Tryz.results159, go_sem, z0, z1, z2, z3, z4, z5, z6, z7, hut]) rfl ⟨A6, c6, rfl, ?_, ?_⟩
  ·refine Kd.S_mono (Kd.S_move (Kd.S_types (Kd.S_bound HF6.out.2) HZ6.out (by decide)) (fun k hk => (h8.2.1 k hk.2).trans (K7.out k hk.1.2.1 hk.1.2.2.1))) (fun _ _ => trivial)
  ·have hz := HSZ.out
   exact Regr.wrap HB6.out H7.out HK.out.par HSM.out.2.2 HK.out.bb (w.heap.size + 1) (by omega) ⟨_, _, HZ6.out, by decide, by decide, HZ7.out⟩ h8.2.2.1 h8.2.1 h8.2.2.2
structure GiveAt (w : World) (base tb kb i : Nat) (bv : Value) (n : S95) (A : Option Addr) (c : Nat) (kv up : Value) (pl : Int) (bs : List Nat) : Prop where
 x : TwigB w tb n A c kv up pl
 row : PtrRow w base kv bs
 le : i ≤ bs.length
 bef : Ahead w bv i bs.length
 kids : ∀ k ∈ kb :: bs, ∃ n A c kv up pl, TwigB w k n A c kv up pl
 nd : (kb :: bs).Nodup
 nb : tb ∉ kb :: bs
 len : bs.length < 1000000000
 bb : base ≤ tb
 lo : ∀ k ∈ kb :: bs, base ≤ k
 sz : base ≤ w.heap.size
theorem GiveAt.below {w W : World} {base tb kb i : Nat} {bv : Value} {n : S95} {A : Option Addr} {c : Nat} {kv up : Value} {pl : Int} {bs : List Nat} (h : GiveAt w base tb kb i bv n A c kv up pl bs) (hb : Below w.heap.size w W) : GiveAt W base tb kb i bv n A c kv up pl bs := by
 refine ⟨blk_below h.x hb, Kd.R_below h.row hb, h.le, ?_, fun k hk => ?_, h.nd, h.nb, h.len, h.bb, h.lo, Nat.le_trans h.sz hb.size⟩
 ·rcases h.bef with h1 | ⟨bb, n, A, c, kv, up, h1, h2⟩
  ·exact .inl h1
  ·exact .inr ⟨bb, n, A, c, kv, up, h1, blk_below h2 hb⟩
 ·obtain ⟨n, A, c, kv, up, pl, h1⟩ := h.kids k hk
  exact ⟨n, A, c, kv, up, pl, blk_below h1 hb⟩
theorem GiveAt.give {w : World} {base tb kb i : Nat} {bv : Value} {n : S95} {A : Option Addr} {c : Nat} {kv up : Value} {pl : Int} {bs : List Nat} (h : GiveAt w base tb kb i bv n A c kv up pl bs) : Calls Tryz.prog 149 #[ptr tb, ptr kb, bv] w fun e w' => e = .returned (.tuple #[]) ∧ Regr w w' base tb n A c kv up pl (bs.take i ++ kb :: bs.drop i) :=
 give_calls w base tb kb i bv n A c kv up pl bs h.x h.row h.le h.bef h.kids h.nd h.nb h.len h.bb h.lo h.sz
theorem GMap.kept {w w1 : World} {g : Nat} {ns : List S95} {bs : List Nat} {S : Nat → Prop} (h : GMap w g ns bs) (hk : Kept w w1 S) (hS : ∀ k, S k → ∃ cs t, w.heap[k]? = some (.cells cs t (0, 0)) ∧ t ≠ 102) : GMap w1 g ns bs := by
 obtain ⟨mb, h1, h2⟩ := h
 refine ⟨mb, (hk.2 g (blk_lt h1) (fun hs => ?_)).trans h1, ?_⟩
 ·obtain ⟨cs, t, h3, h4⟩ := hS g hs
  rw [h1] at h3
  injection h3 with h3
  injection h3 with _ h3
  exact h4 h3.symm
 ·obtain ⟨es, m, h0, h3⟩ := h2
  refine MapIs.kept ⟨es, m, h0, h3⟩ (hk.2 mb ?_ (fun hs => ?_))
  ·exact (Array.getElem?_eq_some_iff.1 h3).1
  ·obtain ⟨cs, t, h5, _⟩ := hS mb hs
   rw [h3] at h5
   cases h5
theorem GMap.regr {w w1 : World} {g : Nat} {ns : List S95} {bs : List Nat} {base b : Nat} {n : S95} {A : Option Addr} {c : Nat} {kv up : Value} {pl : Int} {bs' : List Nat} (h : GMap w g ns bs) (hR : Regr w w1 base b n A c kv up pl bs') (hx : TwigB w b n A c kv up pl) (hrow : ∃ l, PtrRow w base kv l) (ht : ∀ k ∈ bs', ∃ n A c kv up pl, TwigB w k n A c kv up pl) : GMap w1 g ns bs := by
 refine h.kept hR.kept (fun k hk => ?_)
 rcases hk with rfl | hk | hk
 ·exact ⟨_, _, hx, by decide⟩
 ·obtain ⟨l, hl⟩ := hrow
  obtain ⟨cs, hc⟩ := row_typed hl k hk
  exact ⟨_, _, hc, by decide⟩
 ·obtain ⟨n, A, c, kv, up, pl, h1⟩ := ht k hk
  exact ⟨_, _, h1, by decide⟩
theorem Regr.other {w w1 : World} {base b : Nat} {n : S95} {A : Option Addr} {c : Nat} {kv up : Value} {pl : Int} {bs' : List Nat} (hR : Regr w w1 base b n A c kv up pl bs') (hx : TwigB w b n A c kv up pl) (hrow : ∃ l, PtrRow w base kv l) (ht : ∀ k ∈ bs', ∃ n A c kv up pl, TwigB w k n A c kv up pl) {k : Nat} {cs : Array Value} {t : TypeId} (hk : w.heap[k]? = some (.cells cs t (0, 0))) (h1 : t ≠ 99) (h2 : t ≠ 97) : w1.heap[k]? = some (.cells cs t (0, 0)) := by
 refine (hR.kept.2 k (blk_lt hk) (fun hs => ?_)).trans hk
 have key : ∀ cs' t', w.heap[k]? = some (.cells cs' t' (0, 0)) → t = t' := fun cs' t' h => by
  rw [hk] at h
  injection h with h
  injection h
 rcases hs with rfl | hs | hs
 ·exact h1 (key _ _ hx)
 ·obtain ⟨l, hl⟩ := hrow
  obtain ⟨cs', hc⟩ := row_typed hl k hs
  exact h2 (key _ _ hc)
 ·obtain ⟨n, A, c, kv, up, pl, h3⟩ := ht k hs
  exact h1 (key _ _ h3)
theorem GMap.at_ {w : World} {g : Nat} {ns : List S95} {bs : List Nat} (h : GMap w g ns bs) (hl : bs.length = ns.length ∧ (ns.map (·.f0)).Nodup) {id : Int} {v : Value} (hv : lkv ns bs id = v) {mb : Nat} (hm : w.cell? ⟨g, 1, none⟩ = some (.map (some mb))) : (Instr.lookup 100 (.map (some mb)) (.int .i64 id) false).run Tryz.prog w = .ok v w ∧ (∀ m, (Instr.lookup 100 (.map (some mb)) (.int .i64 id) false).run Tryz.prog (w.drewN m) = .ok v (w.drewN m)) ∧ (Instr.lookup 100 (.map (some mb)) (.int .i64 id) false).run Tryz.prog w.drew = .ok v w.drew := by
 obtain ⟨mb', h1, h2, h3⟩ := h.facts hl.1 hl.2
 rw [hm] at h2
 have e : mb = mb' := by simpa using h2
 rw [← e] at h3
 have e1 := h3 id w rfl
 have e2 := fun m => h3 id (w.drewN m) rfl
 have e3 := h3 id w.drew rfl
 rw [hv] at e1 e3
 exact ⟨e1, fun m => by have := e2 m; rwa [hv] at this, e3⟩
theorem GiveAt.mid {w : World} {base tb kb i : Nat} {bv : Value} {n : S95} {A : Option Addr} {c : Nat} {kv up : Value} {pl : Int} {bs : List Nat} (h : GiveAt w base tb kb i bv n A c kv up pl bs) : ∀ k ∈ bs.take i ++ kb :: bs.drop i, ∃ n A c kv up pl, TwigB w k n A c kv up pl := fun k hk => by
 have hperm : (bs.take i ++ kb :: bs.drop i).Perm (kb :: bs) := by
  have := List.perm_middle (a := kb) (l₁ := bs.take i) (l₂ := bs.drop i)
  rwa [List.take_append_drop] at this
 exact h.kids k (hperm.mem_iff.1 hk)
theorem GMap.cell1 {w w1 : World} {g : Nat} {ns : List S95} {bs : List Nat} (h : GMap w g ns bs) {base b : Nat} {n : S95} {A : Option Addr} {c : Nat} {kv up : Value} {pl : Int} {bs' : List Nat} (hR : Regr w w1 base b n A c kv up pl bs') (hx : TwigB w b n A c kv up pl) (hrow : ∃ l, PtrRow w base kv l) (ht : ∀ k ∈ bs', ∃ n A c kv up pl, TwigB w k n A c kv up pl) {v : Value} (hv : w.cell? ⟨g, 1, none⟩ = some v) : w1.cell? ⟨g, 1, none⟩ = some v := by
 obtain ⟨mb, h1, _⟩ := h
 have h2 := hR.other hx hrow ht h1 (by decide) (by decide)
 rw [← hv, blk_cell h1 1, blk_cell h2 1]
end Go.Proofs.YthjgohbkpjhkeaaGreatDoor.Impl
