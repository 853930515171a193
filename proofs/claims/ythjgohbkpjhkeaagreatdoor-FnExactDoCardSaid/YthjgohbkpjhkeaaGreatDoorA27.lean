/- Part 27 of the proof: DoSpecQ. -/
import Derived.Test.YthjgohbkpjhkeaaGreatDoorA1
import Derived.Test.YthjgohbkpjhkeaaGreatDoorA26
import Derived.BigRegion
import Derived.Deep.RegionHeld3
set_option linter.unusedVariables false
set_option linter.unusedSimpArgs false
set_option maxHeartbeats 4000000
set_option maxRecDepth 100000
namespace Go.Proofs.YthjgohbkpjhkeaaGreatDoor.Impl
open Go.RowKit Go.Proofs.YthjgohbkpjhkeaaGreatDoorW.PrintWords Go.Proofs.YthjgohbkpjhkeaaGreatDoorW.PrintLast Go.Proofs.YthjgohbkpjhkeaaGreatDoorW.PrintMore Go.Proofs.YthjgohbkpjhkeaaGreatDoor.PFnExactDo Go.Proofs.YthjgohbkpjhkeaaGreatDoor.MapLib Go.Proofs.YthjgohbkpjhkeaaGreatDoor.FireSpec Go.Proofs.YthjgohbkpjhkeaaGreatDoor.Tr
theorem S_put {ns : List S95} {W : World} {base g n cap j : Nat} {ok : Nat → Prop} (h : Kd.S k95 95 W base ok (.slice (some ⟨g, 0, none⟩) n cap) ns) (hj : j < ns.length) (i : Nat) (hi : i < (ns.getD j z95).f3.length) (s : ByteArray) :
  ∃ gA c8, W.cell? ⟨g, j * 6 + 3, none⟩ = some (.slice (some ⟨gA, 0, none⟩) (ns.getD j z95).f3.length c8) ∧ W.cell? ⟨gA, i * 2 + 1, none⟩ = some (.string ((ns.getD j z95).f3.getD i z149).f1) ∧ (∀ k, W.frozen? ⟨gA, i * 2 + k, none⟩ = false) ∧ base ≤ gA ∧
   ∀ (W1 : World), Below W.heap.size W W1 → (∀ k, W1.frozen? ⟨gA, i * 2 + k, none⟩ = false) ∧ ∀ W', W' = W1.setCell ⟨gA, i * 2 + 1, none⟩ (.string s) → Kd.S k95 95 W' base ok (.slice (some ⟨g, 0, none⟩) n cap) (ns.set j (withAttrs (ns.getD j z95) ((ns.getD j z95).f3.set i ⟨((ns.getD j z95).f3.getD i z149).f0, s⟩))) ∧ W1.grownBy W' (some gA) := by
 have key : ∀ W1, Below W.heap.size W W1 → ∃ gA c8, W1.cell? ⟨g, j * 6 + 3, none⟩ = some (.slice (some ⟨gA, 0, none⟩) (ns.getD j z95).f3.length c8) ∧ W1.cell? ⟨gA, i * 2 + 1, none⟩ = some (.string ((ns.getD j z95).f3.getD i z149).f1) ∧ (∀ k, W1.frozen? ⟨gA, i * 2 + k, none⟩ = false) ∧ base ≤ gA ∧
   ∀ (W' : World), W' = W1.setCell ⟨gA, i * 2 + 1, none⟩ (.string s) → Kd.S k95 95 W' base ok (.slice (some ⟨g, 0, none⟩) n cap) (ns.set j (withAttrs (ns.getD j z95) ((ns.getD j z95).f3.set i ⟨((ns.getD j z95).f3.getD i z149).f0, s⟩))) ∧ W1.grownBy W' (some gA) := fun W1 hW1 => by
  have h := Kd.S_below h hW1
  obtain ⟨oki, c6, hcl, hM, hcc, hoki, hback⟩ := Kd.S_borrow h z95 (j : Int) (by omega) (by have := (Kd.S_reads' h).1; omega)
  obtain ⟨v3, rfl, hR⟩ := k95_openM hM
  simp only [Int.toNat_natCast] at hR hcc hback
  obtain ⟨gA, c8, rfl, hgb, hgl, cells, hgc⟩ := Kd.R_form hR (by omega)
  obtain ⟨c2, hcl2, hM2, hcc2, hfr2⟩ := Kd.R_elem hR z149 (i : Int) (by omega) (by omega)
  have e2 := k149_openM hM2
  subst e2
  simp only [Int.toNat_natCast] at hcc2 hfr2
  refine ⟨gA, c8, ?_, hcc2 1 _ rfl, hfr2, hgb, fun W' hW' => ?_⟩
  ·have := hcc 3 _ rfl
   rw [add_plain] at this
   exact this
  ·have hP := Kd.R_seg hR (i : Int) (by omega) (by omega) (seg := [.string s]) (j := 1) hcl2 hcc2 (show 2 ≤ 2 from by decide) (x' := (⟨((ns.getD j z95).f3.getD i z149).f0, s⟩ : S149)) (okp := fun _ => False) (k149_mkM _ _ _ (⟨((ns.getD j z95).f3.getD i z149).f0, s⟩ : S149)) (fun _ hk => hk.elim)
   simp only [Int.toNat_natCast] at hP
   subst hW'
   have hl : ((ns.getD j z95).f3.set i ⟨((ns.getD j z95).f3.getD i z149).f0, s⟩).length = (ns.getD j z95).f3.length := by simp
   refine ⟨hback hP.2 (fun k hk => ?_) ?_, hP.2⟩
   ·injection hk with hk
    subst hk
    exact hR.1 _ rfl
   ·exact k95_mkM _ _ _ (withAttrs (ns.getD j z95) ((ns.getD j z95).f3.set i ⟨((ns.getD j z95).f3.getD i z149).f0, s⟩)) hP.1
 obtain ⟨gA, c8, h1, h2, h3, h4, _⟩ := key W (Below.refl _ _)
 refine ⟨gA, c8, h1, h2, h3, h4, fun W1 hW1 => ?_⟩
 obtain ⟨gA', c8', h1', _, h3', _, h5'⟩ := key W1 hW1
 have e := (hW1.cell (World.block_lt_of_cell? W _ h1)).trans h1
 rw [h1'] at e
 injection e with e
 injection e with e _ _
 injection e with e
 injection e with e _ _
 subst e
 exact ⟨h3', h5'⟩
def Copied (A : Option Addr) (c i : Nat) (xs : List S149) (W : World) : Prop := Calls Tryz.prog 103 #[.slice A i c] W fun e w' => ∃ A1 c1, e = .returned (.slice A1 i c1) ∧ Kd.N k149 149 w' W.heap.size (fun k => W.heap.size ≤ k) (.slice A1 i c1) (xs.take i) ∧ Below W.heap.size W w'
theorem copied {A : Option Addr} {c i : Nat} {xs : List S149} {W : World} (hC : Kd.C k149 W A xs.length xs) (hc : xs.length ≤ c) (hi : i ≤ xs.length) (hl : xs.length < 4398046511104) : Copied A c i xs W := by
 have ht : (xs.take i).length = i := by rw [List.length_take]; omega
 have h := l3Attrs_calls A c (xs.take i) W (Kd.C_take hC hi) (by omega) (by omega)
 rw [ht] at h
 refine h.mono ?_
 rintro e w' ⟨v, rfl, hR, hb⟩
 obtain ⟨A1, c1, rfl⟩ := Kd.R_slice hR
 rw [ht] at hR ⊢
 exact ⟨A1, c1, rfl, Kd.N_mono (Kd.R_N (Kd.R_bound hR)) (fun k hk => hk.2.1), hb⟩
theorem attrs_of_S {ns : List S95} {W : World} {base g n cap j : Nat} (h : Kd.S k95 95 W base (fun _ => True) (.slice (some ⟨g, 0, none⟩) n cap) ns) (hj : j < ns.length) : ∃ A c, W.cell? ⟨g, j * 6 + 3, none⟩ = some (.slice A (ns.getD j z95).f3.length c) ∧ (ns.getD j z95).f3.length ≤ c ∧ Kd.F k149 W (fun k => base ≤ k ∧ k ≠ g ∧ k < W.heap.size) A (ns.getD j z95).f3.length (ns.getD j z95).f3 ∧ Kd.N k95 95 W base (fun k => base ≤ k) (.slice (some ⟨g, 0, none⟩) n cap) ns ∧ base ≤ g ∧ g < W.heap.size := by
 have hN := Kd.N_mono (Kd.S_N (Kd.S_bound h)) (ok' := fun k => base ≤ k) (fun k hk => hk.2.1)
 obtain ⟨A, c, hcc, _, hl, hF⟩ := node_cells hN hj
 exact ⟨A, c, hcc 3 _ rfl, hl, Kd.F_mono (Kd.F_bound hF) (fun k hk => ⟨hk.1.1, hk.1.2, hk.2⟩), hN, Kd.N_base hN g rfl, Kd.N_lt hN g rfl⟩
theorem cut_tail {A : Option Addr} {c i : Nat} {xs : List S149} {W : World} {ok : Nat → Prop} (hF : Kd.F k149 W ok A xs.length xs) (hi : i ≤ xs.length) (hc : xs.length ≤ c) : ∃ A1 c1, (∀ W, (Instr.slice 93 (.slice A xs.length c) (some (.int .i64 (i : Int))) none none).run Tryz.prog W = .ok (.slice A1 (xs.length - i) c1) W) ∧ Kd.F k149 W ok A1 (xs.length - i) (xs.drop i) := by
 obtain ⟨i0, hi0, _, hsz, _⟩ := info_parts info149
 have h1 := cut_from (P := Tryz.prog) 93 149 .i64 Tryz.underlying93 hi0 2 hsz A xs.length c (i : Int) (by omega) (by omega)
 have h2 := Kd.F_cut hF hi hc
 simp only [Int.toNat_natCast] at h1
 rw [List.length_drop] at h2
 exact ⟨_, _, h1, h2⟩
theorem one_F {W : World} {b : Nat} {a v : ByteArray} (h : W.heap[b]? = some (.cells #[.string a, .string v] 149)) : Kd.F k149 W (fun k => k = b) (some ⟨b, 0, none⟩) 1 [(⟨a, v⟩ : S149)] := fun W' hW => by
 have h2 : W'.heap[b]? = some (.cells #[.string a, .string v] 149) := (hW b rfl (blk_lt h)).trans h
 refine ⟨rfl, by simp, fun _ => ⟨_, rfl, fun j p hj => ?_⟩⟩
 have hj0 : j = 0 := by have := (List.getElem?_eq_some_iff.1 hj).1; simpa using this
 subst hj0
 obtain rfl : p = ⟨a, v⟩ := by simpa using hj.symm
 refine ⟨[.string a, .string v], rfl, k149_mk _ _, fun i u hu => ?_⟩
 rw [add_plain]
 match i, hu with
 | 0, hu => simp only [List.getElem?_cons_zero, Option.some.injEq] at hu; subst hu; exact blk_cell h2 0
 | 1, hu => simp only [List.getElem?_cons_succ, List.getElem?_cons_zero, Option.some.injEq] at hu; subst hu; exact blk_cell h2 1
 | i + 2, hu => simp at hu
inductive AttrCase (ns : List S95) (A0 : Option Addr) (c0 : Nat) (C : Chg) (j : Nat) (r : Int) (nd : S95) : List S95 → Chg → Int → Prop
 | kind (hk : (rd_T95 ns (j : Int)).f1 ≠ 2) : AttrCase ns A0 c0 C j r nd [] zC 3
 | gone (hk : (rd_T95 ns (j : Int)).f1 = 2) (h0 : C.f0 = 5) (hr0 : r < 0) : AttrCase ns A0 c0 C j r nd [] zC 3
 | name (hk : (rd_T95 ns (j : Int)).f1 = 2) (h0 : C.f0 = 4) (hn : C.f4 = ⟨#[]⟩) : AttrCase ns A0 c0 C j r nd [] zC 3
 | old (hk : (rd_T95 ns (j : Int)).f1 = 2) (h0 : C.f0 = 4) (hn : C.f4 ≠ ⟨#[]⟩) (i : Nat) (hi : i < nd.f3.length) (av : S149) (hav : nd.f3.getD i z149 = av) (hri : r = (i : Int)) (hX : ∀ W, Kd.C k95 W A0 ns.length ns → Calls Tryz.prog 51 #[.slice A0 ns.length c0] W fun e w' => ∃ g n c, e = .returned (.slice (some ⟨g, 0, none⟩) n c) ∧ Kd.S k95 95 w' W.heap.size (fun _ => True) (.slice (some ⟨g, 0, none⟩) n c) ns ∧ n = ns.length ∧ Below W.heap.size W w') : AttrCase ns A0 c0 C j r nd (ns.set j (withAttrs nd (nd.f3.set i ⟨av.f0, C.f5⟩))) ⟨4, C.f1, 0, 0, C.f4, av.f1, r, []⟩ 0
 | drop (hk : (rd_T95 ns (j : Int)).f1 = 2) (h0 : C.f0 = 5) (hnl : nd.f3.length < 4398046511104) (i : Nat) (hi : i < nd.f3.length) (av : S149) (hav : nd.f3.getD i z149 = av) (hri : r = (i : Int)) (lst : List S149) (hlst : nd.f3.take i ++ nd.f3.drop (i + 1) = lst) (hX : ∀ W, Kd.C k95 W A0 ns.length ns → Calls Tryz.prog 51 #[.slice A0 ns.length c0] W fun e w' => ∃ g n c, e = .returned (.slice (some ⟨g, 0, none⟩) n c) ∧ Kd.S k95 95 w' W.heap.size (fun _ => True) (.slice (some ⟨g, 0, none⟩) n c) ns ∧ n = ns.length ∧ Below W.heap.size W w') : AttrCase ns A0 c0 C j r nd (ns.set j (withAttrs nd lst)) ⟨4, C.f1, 0, 0, C.f4, av.f1, r, []⟩ 0
 | new (hk : (rd_T95 ns (j : Int)).f1 = 2) (h0 : C.f0 = 4) (hn : C.f4 ≠ ⟨#[]⟩) (hnl : nd.f3.length < 1000000000) (hr9 : r < 0)  (i : Nat) (hi : (i : Int) = if C.f6 < 0 ∨ (nd.f3.length : Int) < C.f6 then (nd.f3.length : Int) else C.f6) (l1 : List S149) (hl1 : nd.f3.take i ++ [⟨C.f4, C.f5⟩] = l1) (lst : List S149) (hlst : l1 ++ nd.f3.drop i = lst) (hX : ∀ W, Kd.C k95 W A0 ns.length ns → Calls Tryz.prog 51 #[.slice A0 ns.length c0] W fun e w' => ∃ g n c, e = .returned (.slice (some ⟨g, 0, none⟩) n c) ∧ Kd.S k95 95 w' W.heap.size (fun _ => True) (.slice (some ⟨g, 0, none⟩) n c) ns ∧ n = ns.length ∧ Below W.heap.size W w') : AttrCase ns A0 c0 C j r nd (ns.set j (withAttrs nd lst)) ⟨5, C.f1, 0, 0, C.f4, ⟨#[]⟩, 0, []⟩ 0
theorem attrs_all (w : World) (ns : List S95) (C : Chg) (A0 : Option Addr) (c0 : Nat) (A : Option Addr) (c : Nat) (hr : Kd.C k95 w A0 ns.length ns) (hc : ns.length ≤ c0) (j : Nat) (hj : j < ns.length) (hal : ns[j].f3.length < 2 ^ 62) (r : Int) (hrr : r = idxI (idxA C.f4 ns[j].f3)) (nd : S95) (hnd : ns.getD j z95 = nd) (out : List S95) (R : Chg) (code : Int) (hcs : AttrCase ns A0 c0 C j r nd out R code) :
  Calls Tryz.prog 73 #[.agg #[.slice A0 ns.length c0], chv C A c, .int .i64 j] w (DidEnd w out R code) := by
 have HR := am hr
 have HC := am hc
 have HJ := am hj
 obtain ⟨ka, hka⟩ := show ∃ k, spec_l5Attr.f k (rd_T95 ns (j : Int)).f0 (rd_T95 ns (j : Int)).f1 (rd_T95 ns (j : Int)).f2 (rd_T95 ns (j : Int)).f3 (rd_T95 ns (j : Int)).f4 (rd_T95 ns (j : Int)).f5 C.f4 = some r from by rw [get_rd hj, hrr]; exact (attr_f ns[j] C.f4 hal).some
 have HKA := am hka
 clear hrr hal hka hr hc hj
 have HCS := am hcs
 clear hcs
 go_enter Tryz.func73, Tryz.ntmps73
 go_wp2_with fail
 have HS1 := am (AB.three (w := w) (A0 := A0) (n := ns.length) (c0 := c0) (C := C) (A := A) (c := c))
 generalize World.alloc _ _ = w1 at HS1 ⊢
 obtain ⟨xt, x0, x1, x2, x3, x4, x5, x6, x7⟩ := HS1.out.s.cells
 obtain ⟨ad, A3, c3, rfl, hx0, hx1, hx2, hx3, hx4, hx5, hl3, hi3⟩ := at_T95 (Kd.C_below HR.out HS1.out.s.b) (j : Int) (by omega) (by have := HJ.out; omega)
 have e3 := eq_true (show (0 : Int) ≤ (j : Int) from by omega)
 have e4 := eq_true (show (j : Int) < (ns.length : Int) from by have := HJ.out; omega)
 simp only [Int.toNat_natCast] at hx0 hx1 hx2 hx3 hx4 hx5
 generalize hnj : rd_T95 ns (j : Int) = nj at HKA hx0 hx1 hx2 hx3 hx4 hx5 hl3 hi3
 have HH := am (show ∀ W, Below w1.heap.size w1 W → Calls Tryz.prog 102 #[.agg #[.int .i64 nj.f0, .int .i64 nj.f1, .string nj.f2, .slice A3 nj.f3.length c3, .string nj.f4, .int .i64 nj.f5], .string C.f4] W fun e w' => e = .returned (.int .i64 r) ∧ Below W.heap.size W w' from fun W hW => spec_l5Attr.calls ka _ _ _ A3 c3 _ _ _ _ r W (Kd.C_below hi3 hW) hl3 HKA.out)
 clear hi3 hl3
 have HD1 := am (And.intro (Below.refl w1.heap.size w1) (Below.refl w1.heap.size w1).drew)
 have HST := am (show ∀ W, Below w1.heap.size w1 W → (W.cell? ⟨w.heap.size, 0, none⟩ = some (.slice (some ad) ns.length c0) ∧ W.cell? ⟨w.heap.size + 1, 4, none⟩ = some (.string C.f4) ∧ W.cell? (ad.add (j * 6)) = some (.int .i64 nj.f0) ∧ W.cell? ⟨(ad.add (j * 6)).block, (ad.add (j * 6)).off + 1, none⟩ = some (.int .i64 nj.f1) ∧ W.cell? ⟨(ad.add (j * 6)).block, (ad.add (j * 6)).off + 2, none⟩ = some (.string nj.f2) ∧ W.cell? ⟨(ad.add (j * 6)).block, (ad.add (j * 6)).off + 3, none⟩ = some (.slice A3 nj.f3.length c3) ∧ W.cell? ⟨(ad.add (j * 6)).block, (ad.add (j * 6)).off + 4, none⟩ = some (.string nj.f4) ∧ W.cell? ⟨(ad.add (j * 6)).block, (ad.add (j * 6)).off + 5, none⟩ = some (.int .i64 nj.f5)) from fun W hW => ⟨pw_cell_below hW xt, pw_cell_below hW x4, pw_cell_below hW hx0, pw_cell_below hW hx1, pw_cell_below hW hx2, pw_cell_below hW hx3, pw_cell_below hW hx4, pw_cell_below hW hx5⟩)
 go_wp2_with fail
 go_cut [9] (fun v9 wc => v9 = .int .i64 r ∧ Aside0 (Below w1.heap.size w1 wc))
 case first =>
  clear x0 x1 x2 x3 x5 x6 x7
  first | (go_region_held3 (fun W => W.cell? ⟨w.heap.size, 0, none⟩ = some (.slice (some ad) ns.length c0) ∧ W.cell? ⟨w.heap.size + 1, 4, none⟩ = some (.string C.f4) ∧ W.cell? (ad.add (j * 6)) = some (.int .i64 nj.f0) ∧ W.cell? ⟨(ad.add (j * 6)).block, (ad.add (j * 6)).off + 1, none⟩ = some (.int .i64 nj.f1) ∧ W.cell? ⟨(ad.add (j * 6)).block, (ad.add (j * 6)).off + 2, none⟩ = some (.string nj.f2) ∧ W.cell? ⟨(ad.add (j * 6)).block, (ad.add (j * 6)).off + 3, none⟩ = some (.slice A3 nj.f3.length c3) ∧ W.cell? ⟨(ad.add (j * 6)).block, (ad.add (j * 6)).off + 4, none⟩ = some (.string nj.f4) ∧ W.cell? ⟨(ad.add (j * 6)).block, (ad.add (j * 6)).off + 5, none⟩ = some (.int .i64 nj.f5)) (first | (with_reducible exact HST.out _ HD1.out.1) | (with_reducible exact HST.out _ HD1.out.2) | (with_reducible exact HST.out _ HB3.out) | go_keep) (first | (go_at_call 102; refine (HH.out _ (by with_reducible first | exact HD1.out.1 | exact HD1.out.2)).mono ?_; rintro e w3 ⟨rfl, hb3⟩; have HB3 := am (show Below w1.heap.size w1 w3 from (by with_reducible first | exact hb3 | exact below_step HD1.out.2 hb3)); clear hb3) | fail)) | fail
  all_goals
   go_wp2
   go_meet
   case rel => exact ⟨rfl, ⟨by with_reducible exact HB3.out⟩⟩
 case rest =>
  obtain ⟨rfl, HF⟩ := hcut
  clear xt x0 x1 x2 x3 x4 x5 x6 x7
  have HS2 := am (HS1.out.below HF.out)
  obtain ⟨_, _, hx0, hx1, hx2, hx3, hx4, hx5⟩ := HST.out _ HF.out
  clear HF HH HST HD1
  obtain ⟨xt, x0, x1, x2, x3, x4, x5, x6, x7⟩ := HS2.out.s.cells
  obtain ⟨z0, z1, z2, z3, z4, z5, z6, z7⟩ := HS2.out.zc
  obtain ⟨f0, f1, f2, f3, f4, f5, f6, f7⟩ := HS2.out.zf
  rcases HCS.out with ⟨hk⟩ | ⟨hk, h0, hr0⟩ | ⟨hk, h0, hn⟩ | ⟨hk, h0, hn, i, hi, av, hav, hri, hX⟩ | ⟨hk, h0, hnl, i, hi, av, hav, hri, lst, hlst, hX⟩ | ⟨hk, h0, hn, hnl, hr9, i, hi, l1, hl1, lst, hlst, hX⟩
  clear HCS
  have s2 : (nj.f1 != 2) = true := by rw [← hnj]; simpa using hk
  clear hk
  rotate_left
  clear HCS
  have s2 : (nj.f1 != 2) = false := by rw [← hnj]; simpa using hk
  clear hk
  have s5 : (C.f0 == 5) = true := by rw [h0]; rfl
  have s9 : decide (r < 0) = true := decide_eq_true hr0
  clear h0 hr0
  rotate_left
  clear HCS
  have s2 : (nj.f1 != 2) = false := by rw [← hnj]; simpa using hk
  clear hk
  have s5 : (C.f0 == 5) = false := by rw [h0]; rfl
  have s4 : (C.f4.toList == []) = true := by rw [dec_bytes]; exact decide_eq_true hn
  clear h0 hn
  rotate_left
  ·clear HCS
   have s2 : (nj.f1 != 2) = false := by rw [← hnj]; simpa using hk
   clear hk
   have s4 : (C.f4.toList == []) = false := by rw [dec_bytes]; exact decide_eq_false hn
   have s5 : (C.f0 == 5) = false := by rw [h0]; rfl
   have s9 : decide (r < 0) = false := decide_eq_false (by omega)
   have s10 : decide (0 ≤ r) = true := decide_eq_true (by omega)
   have HI := am (And.intro hi (And.intro hri (And.intro hnd hav)))
   have HX := am hX
   clear h0 hn hi hri hX hnd hav
   go_wp2_with fail
   refine (HX.out wc (Kd.C_below HR.out HS2.out.s.b)).mono ?_
   rintro e w3 ⟨g, n, c9, rfl, hS3, hn3, hb3⟩
   subst hn3
   have HS3 := am (HS2.out.below hb3)
   have HG3 := am (And.intro hS3 (And.intro hb3.size (blk_lt HS2.out.z)))
   have hso := S_put hS3 HJ.out i (by rw [HI.out.2.2.1]; exact HI.out.1) C.f5
   rw [HI.out.2.2.1, HI.out.2.2.2] at hso
   obtain ⟨gA, c8, ha3, hv3, hvf, hgA, hput⟩ := hso
   have HP := am (And.intro hput (And.intro hgA (And.intro hv3 hvf)))
   have i1 := eq_true (show (0 : Int) ≤ r from by have := HI.out.2.1; omega)
   have i2 := eq_true (show r < (nd.f3.length : Int) from by have := HI.out; omega)
   have i3 : r.toNat = i := by have := HI.out.2.1; omega
   clear hput hgA hv3 hvf
   have HA3 := am (show Below w3.heap.size w3 (w3.alloc (mbox8 zC none 0 33)) ∧ (w3.alloc (mbox8 zC none 0 33)).heap[w3.heap.size]? = some (mbox8 zC none 0 33) from ⟨(Below.refl _ w3).alloc (Nat.le_refl _) _, blk_newest w3 _⟩)
   obtain ⟨n0, n1, n2, n3, n4, n5, n6, n7⟩ := cells8t HA3.out.2
   have nf := fun k => blk_frozen HA3.out.2 k
   clear hS3 hb3 hx0 hx1 hx2 hx3 hx4 hx5
   clear xt x0 x1 x2 x3 x4 x5 x6 x7 z0 z1 z2 z3 z4 z5 z6 z7 f0 f1 f2 f3 f4 f5 f6 f7
   obtain ⟨xt, x0, x1, x2, x3, x4, x5, x6, x7⟩ := HS3.out.s.cells
   go_wp2_with fail
   have HB4 := am (show Below w3.heap.size w3 (w3.alloc (mbox8 ⟨5, C.f1, 0, 0, C.f4, ⟨#[]⟩, 0, []⟩ none 0 33)) ∧ (w3.alloc (mbox8 ⟨5, C.f1, 0, 0, C.f4, ⟨#[]⟩, 0, []⟩ none 0 33)).heap[w3.heap.size]? = some (mbox8 ⟨5, C.f1, 0, 0, C.f4, ⟨#[]⟩, 0, []⟩ none 0 33) from ⟨(Below.refl _ w3).alloc (Nat.le_refl _) _, blk_newest w3 _⟩)
   generalize hw4 : World.alloc w3 _ = w4 at HB4 ⊢
   have hz3 := HS3.out.s.b.size
   obtain ⟨rb, hrb⟩ : ∃ rb, rb = w3.heap.size := ⟨_, rfl⟩
   have HB4 := am (show Below w3.heap.size w3 w4 ∧ w4.heap[rb]? = some (mbox8 ⟨5, C.f1, 0, 0, C.f4, ⟨#[]⟩, 0, []⟩ none 0 33) ∧ rb = w3.heap.size from ⟨HB4.out.1, hrb ▸ HB4.out.2, hrb⟩)
   rw [← hrb]
   have HS4 := am (HS3.out.below HB4.out.1)
   clear hw4 hrb hz3 HA3 n0 n1 n2 n3 n4 n5 n6 n7 nf xt x0 x1 x2 x3 x4 x5 x6 x7
   obtain ⟨xt, x0, x1, x2, x3, x4, x5, x6, x7⟩ := HS4.out.s.cells
   have hv4 : w4.cell? ⟨gA, i * 2 + 1, none⟩ = some (.string av.f1) := pw_cell_below HB4.out.1 HP.out.2.2.1
   obtain ⟨n0, n1, n2, n3, n4, n5, n6, n7⟩ := cells8t HB4.out.2.1
   have nf := fun k => blk_frozen HB4.out.2.1 k
   go_region
   generalize hw5 : World.setCell _ _ _ = w5
   obtain ⟨h1, h2, h3, h4⟩ := set8 (C := ⟨4, C.f1, 0, 0, C.f4, av.f1, r, []⟩) (A := none) (c := 0) HB4.out.2.1 hw5.symm
   have HB5 := am (show Below w3.heap.size w3 w5.drew ∧ w5.drew.heap[rb]? = some (mbox8 ⟨4, C.f1, 0, 0, C.f4, av.f1, r, []⟩ none 0 33) ∧ rb = w3.heap.size from ⟨(h4 _ _ HB4.out.1 (by rw [HB4.out.2.2]; exact Nat.le_refl _)).drew, h1, HB4.out.2.2⟩)
   clear h1 h2 h3 h4 hw5 hv4 n0 n1 n2 n3 n4 n5 n6 n7 nf xt x0 x1 x2 x3 x4 x5 x6 x7
   generalize World.drew w5 = w5 at HB5 ⊢
   have HS5 := am (HS3.out.below HB5.out.1)
   clear HS4 HB4
   obtain ⟨xt, x0, x1, x2, x3, x4, x5, x6, x7⟩ := HS5.out.s.cells
   have hv5 : w5.cell? ⟨gA, i * 2 + 1, none⟩ = some (.string av.f1) := pw_cell_below HB5.out.1 HP.out.2.2.1
   have nf := (HP.out.1 w5 HB5.out.1).1 1
   go_upto_region 15 with (fail)
   generalize hw6 : World.setCell w5 _ _ = w6
   obtain ⟨hS6, hG6⟩ := (HP.out.1 w5 HB5.out.1).2 w6 hw6.symm
   have hgl : gA < w3.heap.size := World.block_lt_of_cell? w3 _ HP.out.2.2.1
   have H6 := am (show AB w w6 (some ad) ns.length c0 C A c ∧ w6.heap[rb]? = some (mbox8 ⟨4, C.f1, 0, 0, C.f4, av.f1, r, []⟩ none 0 33) ∧ Kd.F k95 w6 (fun k => wc.heap.size ≤ k) (some ⟨g, 0, none⟩) ns.length (ns.set j (withAttrs nd (nd.f3.set i ⟨av.f0, C.f5⟩))) ∧ ns.length ≤ c9 from by
    have hz := HG3.out.2
    have hz5 := HB5.out.2.2
    have hs5 := HS5.out.s.b.size
    have hh := fun k (h : k < w5.heap.size) (hk : k ≠ gA) => hG6.block k h (fun e => hk (by injection e))
    have hrl := blk_lt (HB5.out.2.1)
    have hzc := HP.out.2.1
    have hzb := blk_lt HS5.out.z
    refine ⟨⟨⟨?_, (hh _ (by omega) (by omega)).trans HS5.out.s.t, (hh _ (by omega) (by omega)).trans HS5.out.s.c⟩, (hh _ (by omega) (by omega)).trans HS5.out.z⟩, (hh _ hrl (by omega)).trans (HB5.out.2.1), ?_, ?_⟩
    ·rw [← hw6]
     exact below_set HS5.out.s.b (show w.heap.size ≤ gA by omega)
    ·exact Kd.N_F (Kd.N_mono (Kd.S_N (Kd.S_bound hS6)) (fun k hk => hk.2.1))
    ·exact (Kd.S_reads' HG3.out.1).2.1)
   clear hS6 hG6 hgl hw6 hv5 nf xt x0 x1 x2 x3 x4 x5 x6 x7
   obtain ⟨z0, z1, z2, z3, z4, z5, z6, z7⟩ := H6.out.1.zc
   have zf := fun k => blk_frozen H6.out.1.z k
   obtain ⟨n0, n1, n2, n3, n4, n5, n6, n7⟩ := cells8t H6.out.2.1
   go_region
   all_goals
    clear z0 z1 z2 z3 z4 z5 z6 z7 zf n0 n1 n2 n3 n4 n5 n6 n7
    generalize hw9 : World.setCell _ _ _ = w9
    obtain ⟨h1, h2, h3, h4⟩ := H6.out.1.set (R := ⟨4, C.f1, 0, 0, C.f4, av.f1, r, []⟩) (Ar := none) (cr := 0) hw9.symm
    obtain ⟨y0, y1, y2, y3, y4, y5, y6, y7⟩ := cells8t h1
    have hut := Tryz.underlying33
    have HZ := am (And.intro h2 h4)
    clear h1 h2 h3 h4 hw9
    go_wp2
    refine bodyPost_ret (v := .tuple #[.slice (some ⟨g, 0, none⟩) ns.length c9, chv ⟨4, C.f1, 0, 0, C.f4, av.f1, r, []⟩ none 0, .int .i64 0]) (by simp [results, Tryz.results73, go_sem, y0, y1, y2, y3, y4, y5, y6, y7, hut]) rfl (show DidEnd _ _ _ _ _ _ from ?_)
    have hl : ((ns.set j (withAttrs nd (nd.f3.set i ⟨av.f0, C.f5⟩)))).length = ns.length := by simp
    have hz := HG3.out.2
    refine ⟨some ⟨g, 0, none⟩, c9, none, 0, by rw [hl], ?_, by rw [hl]; exact H6.out.2.2.2, none_reads _ _, Nat.le_refl _, below_drew1 HZ.out.2⟩
    rw [hl]
    exact Kd.F_mono (Kd.F_drew <| Kd.F_step H6.out.2.2.1 (fun k hk _ => HZ.out.1 k (by omega))) (fun k hk => by omega)
  ·clear HCS
   have s2 : (nj.f1 != 2) = false := by rw [← hnj]; simpa using hk
   clear hk
   have s5 : (C.f0 == 5) = true := by rw [h0]; rfl
   have s9 : decide (r < 0) = false := decide_eq_false (by omega)
   have s10 : decide (0 ≤ r) = true := decide_eq_true (by omega)
   have HI := am (And.intro hi (And.intro hri (And.intro hnd (And.intro hav hnl))))
   have HX := am hX
   have HLS := am hlst
   clear h0 hi hri hX hnd hav hnl hlst
   go_wp2_with fail
   refine (HX.out wc (Kd.C_below HR.out HS2.out.s.b)).mono ?_
   rintro e w3 ⟨g, n, c9, rfl, hS3, hn3, hb3⟩
   subst hn3
   have HS3 := am (HS2.out.below hb3)
   have HG3 := am (And.intro hS3 (And.intro hb3.size (blk_lt HS2.out.z)))
   obtain ⟨A9, c8, ha3, hl9, hF9, hN3, hgb, hgl⟩ := attrs_of_S hS3 HJ.out
   rw [HI.out.2.2.1] at ha3 hl9 hF9
   have i3 : r.toNat = i := by have := HI.out.2.1; omega
   obtain ⟨ad9, rfl, _, hv3⟩ := at_T149 (Kd.F_now hF9) r (by have := HI.out; omega) (by have := HI.out; omega)
   rw [show rd_T149 nd.f3 r = av from by show nd.f3.getD r.toNat z149 = av; rw [i3]; exact HI.out.2.2.2.1, i3] at hv3
   obtain ⟨A10, c10, hcut2, hF10⟩ := cut_tail hF9 (i := i + 1) (by have := HI.out.1; omega) hl9
   have hcut1 := cut_head (A := some ad9) (i := i) (by have := HI.out.1; omega) hl9
   rw [show ((i + 1 : Nat) : Int) = r + 1 from by have := HI.out.2.1; omega] at hcut2
   rw [← HI.out.2.1] at hcut1
   have hw1 : IntKind.i64.wrap (r + 1) = r + 1 := by have := HI.out; rw [i64_w]; exact w64 (by omega) (by omega)
   have hw2 : wrap64 (r + 1) = r + 1 := by have := HI.out; exact w64 (by omega) (by omega)
   have HP := am (And.intro hF9 (And.intro hgb (And.intro hF10 (And.intro hN3 (And.intro hl9 (And.intro hgl hv3))))))
   have i1 := eq_true (show (0 : Int) ≤ r from by have := HI.out.2.1; omega)
   have i2 := eq_true (show r < (nd.f3.length : Int) from by have := HI.out; omega)
   clear hF9 hgb hF10 hN3 hl9 hgl hv3
   have HA3 := am (show Below w3.heap.size w3 (w3.alloc (mbox8 zC none 0 33)) ∧ (w3.alloc (mbox8 zC none 0 33)).heap[w3.heap.size]? = some (mbox8 zC none 0 33) from ⟨(Below.refl _ w3).alloc (Nat.le_refl _) _, blk_newest w3 _⟩)
   obtain ⟨n0, n1, n2, n3, n4, n5, n6, n7⟩ := cells8t HA3.out.2
   have nf := fun k => blk_frozen HA3.out.2 k
   clear hS3 hb3 hx0 hx1 hx2 hx3 hx4 hx5
   clear xt x0 x1 x2 x3 x4 x5 x6 x7 z0 z1 z2 z3 z4 z5 z6 z7 f0 f1 f2 f3 f4 f5 f6 f7
   obtain ⟨xt, x0, x1, x2, x3, x4, x5, x6, x7⟩ := HS3.out.s.cells
   go_wp2_with fail
   have HB4 := am (show Below w3.heap.size w3 (w3.alloc (mbox8 ⟨5, C.f1, 0, 0, C.f4, ⟨#[]⟩, 0, []⟩ none 0 33)) ∧ (w3.alloc (mbox8 ⟨5, C.f1, 0, 0, C.f4, ⟨#[]⟩, 0, []⟩ none 0 33)).heap[w3.heap.size]? = some (mbox8 ⟨5, C.f1, 0, 0, C.f4, ⟨#[]⟩, 0, []⟩ none 0 33) from ⟨(Below.refl _ w3).alloc (Nat.le_refl _) _, blk_newest w3 _⟩)
   generalize hw4 : World.alloc w3 _ = w4 at HB4 ⊢
   have hz3 := HS3.out.s.b.size
   obtain ⟨rb, hrb⟩ : ∃ rb, rb = w3.heap.size := ⟨_, rfl⟩
   have HB4 := am (show Below w3.heap.size w3 w4 ∧ w4.heap[rb]? = some (mbox8 ⟨5, C.f1, 0, 0, C.f4, ⟨#[]⟩, 0, []⟩ none 0 33) ∧ rb = w3.heap.size from ⟨HB4.out.1, hrb ▸ HB4.out.2, hrb⟩)
   rw [← hrb]
   have HS4 := am (HS3.out.below HB4.out.1)
   clear hw4 hrb hz3 HA3 n0 n1 n2 n3 n4 n5 n6 n7 nf xt x0 x1 x2 x3 x4 x5 x6 x7
   obtain ⟨xt, x0, x1, x2, x3, x4, x5, x6, x7⟩ := HS4.out.s.cells
   have hv4 : w4.cell? ⟨(ad9.add (i * 2)).block, (ad9.add (i * 2)).off + 1, none⟩ = some (.string av.f1) := pw_cell_below HB4.out.1 HP.out.2.2.2.2.2.2
   obtain ⟨n0, n1, n2, n3, n4, n5, n6, n7⟩ := cells8t HB4.out.2.1
   have nf := fun k => blk_frozen HB4.out.2.1 k
   go_region
   generalize hw5 : World.setCell _ _ _ = w5
   obtain ⟨h1, h2, h3, h4⟩ := set8 (C := ⟨4, C.f1, 0, 0, C.f4, av.f1, r, []⟩) (A := none) (c := 0) HB4.out.2.1 hw5.symm
   have HB5 := am (show Below w3.heap.size w3 w5.drew ∧ w5.drew.heap[rb]? = some (mbox8 ⟨4, C.f1, 0, 0, C.f4, av.f1, r, []⟩ none 0 33) ∧ rb = w3.heap.size from ⟨(h4 _ _ HB4.out.1 (by rw [HB4.out.2.2]; exact Nat.le_refl _)).drew, h1, HB4.out.2.2⟩)
   clear h1 h2 h3 h4 hw5 hv4 n0 n1 n2 n3 n4 n5 n6 n7 nf xt x0 x1 x2 x3 x4 x5 x6 x7
   generalize World.drew w5 = w5 at HB5 ⊢
   have HS5 := am (HS3.out.below HB5.out.1)
   clear HS4 HB4
   obtain ⟨xt, x0, x1, x2, x3, x4, x5, x6, x7⟩ := HS5.out.s.cells
   have HD5 := am (And.intro (Below.refl w5.heap.size w5) (Below.refl w5.heap.size w5).drew)
   have HL := am (show ∀ W, Below w5.heap.size w5 W → Copied (some ad9) c8 i nd.f3 W from fun W hW => copied (Kd.F_now (Kd.F_below (Kd.F_below HP.out.1 HB5.out.1) hW)) HP.out.2.2.2.2.1 (Nat.le_of_lt HI.out.1) HI.out.2.2.2.2)
   have HQ := am (show g < w3.heap.size ∧ w3.heap.size ≤ w5.heap.size ∧ wc.heap.size ≤ w3.heap.size from ⟨HP.out.2.2.2.2.2.1, HB5.out.1.size, HG3.out.2.1⟩)
   go_wp2_with fail
   go_region_held3 (fun W => True) (exact trivial) (first | (go_at_call 103; refine (HL.out _ (by with_reducible first | exact HD5.out.1 | exact HD5.out.2)).mono ?_; rintro e w6 ⟨A1, c1, rfl, hN6, hb6⟩; have HB6 := am (show Below w5.heap.size w5 w6 from (by with_reducible first | exact hb6 | exact below_step HD5.out.2 hb6)); have HN6 := am (show Kd.N k149 149 w6 w5.heap.size (fun k => w5.heap.size ≤ k) (.slice A1 i c1) (nd.f3.take i) from hN6); clear hN6 hb6) | (refine Kd.N_append_rows_step k149 (w0 := w5) w5.heap.size (by rfl) (.tmp 84) (.tmp 88) 93 149 (.agg #[(.string ⟨#[]⟩), (.string ⟨#[]⟩)]) 32 (by rfl) Tryz.underlying93 info149 (by rfl) (by decide) (by omega) (.slice A1 i c1) (nd.f3.take i) (nd.f3.drop (i + 1)) A10 (nd.f3.length - (i + 1)) c10 (fun k => wc.heap.size ≤ k ∧ k ≠ g) (fun k => wc.heap.size ≤ k ∧ k ≠ g ∧ k < w3.heap.size) (by rfl) (by rfl) (Kd.N_mono HN6.out (fun k hk => by have := HQ.out; omega)) (Kd.F_mono (Kd.F_below (Kd.F_below HP.out.2.2.1 HB5.out.1) HB6.out) (fun k hk => ⟨hk.1, hk.2.1, hk.2.2⟩)) (fun k hk => ⟨⟨hk.1, hk.2.1⟩, fun e => by have h1 := Kd.N_base HN6.out k e.symm; have := HQ.out; omega⟩) (fun k hk => by have := HQ.out; have := HB6.out.size; omega) HB6.out HB6.out.size (by rw [List.length_take]; have := HI.out; omega) ?_; intro v7 w7 hN7 hb7 _ _; rw [HLS.out] at hN7; obtain ⟨A11, c11, hv7⟩ := Kd.N_slice hN7; subst hv7; have HB7 := am (And.intro hb7 hN7); obtain ⟨B7, d7, hcc7, hff7, _⟩ := node_cells (Kd.N_below (Kd.N_below HP.out.2.2.2.1 HB5.out.1) hb7) HJ.out; have hu7 := hcc7 3 _ rfl; have hg7 := hff7 3; clear hN7 hb7 hcc7 hff7) | fail)
   go_wp2
   generalize hw8 : World.setCell w7 _ _ = w8
   have hN7 := Kd.N_below (Kd.N_below HP.out.2.2.2.1 HB5.out.1) HB7.out.1
   have hsz7 := HB7.out.1.size
   obtain ⟨hS6, hG6⟩ := store_attrs (okp := fun k => wc.heap.size ≤ k ∧ k ≠ g) hN7 HJ.out lst (Kd.N_reads' HB7.out.2).2.1 (Kd.N_F HB7.out.2) (fun _ hk => hk) hw8.symm
   rw [HI.out.2.2.1] at hS6
   have HS7 := am (HS5.out.below HB7.out.1)
   have HR7 := am (blk_below HB5.out.2.1 HB7.out.1)
   have HC7 := am (show rb < w7.heap.size from blk_lt HR7.out)
   have H6 := am (show AB w w8 (some ad) ns.length c0 C A c ∧ w8.heap[rb]? = some (mbox8 ⟨4, C.f1, 0, 0, C.f4, av.f1, r, []⟩ none 0 33) ∧ Kd.F k95 w8 (fun k => wc.heap.size ≤ k) (some ⟨g, 0, none⟩) ns.length (ns.set j (withAttrs nd lst)) ∧ ns.length ≤ c9 from by
    have hz := HG3.out.2
    have hz5 := HB5.out.2.2
    have hs5 := HS7.out.s.b.size
    have hh := fun k (h : k < w7.heap.size) (hk : k ≠ g) => hG6.block k h (fun e => hk (by injection e))
    have hrl := blk_lt (HR7.out)
    have hzc := And.intro HP.out.2.1 HQ.out
    have hzb := blk_lt HS7.out.z
    refine ⟨⟨⟨?_, (hh _ (by omega) (by omega)).trans HS7.out.s.t, (hh _ (by omega) (by omega)).trans HS7.out.s.c⟩, (hh _ (by omega) (by omega)).trans HS7.out.z⟩, (hh _ hrl (by omega)).trans (HR7.out), ?_, ?_⟩
    ·rw [← hw8]
     exact below_set HS7.out.s.b (show w.heap.size ≤ g by omega)
    ·exact Kd.N_F hS6
    ·exact (Kd.S_reads' HG3.out.1).2.1)
   clear hS6 hG6 hw8 hN7 hsz7 hu7 hg7
   obtain ⟨z0, z1, z2, z3, z4, z5, z6, z7⟩ := H6.out.1.zc
   have zf := fun k => blk_frozen H6.out.1.z k
   obtain ⟨n0, n1, n2, n3, n4, n5, n6, n7⟩ := cells8t H6.out.2.1
   go_region
   all_goals
    clear z0 z1 z2 z3 z4 z5 z6 z7 zf n0 n1 n2 n3 n4 n5 n6 n7
    generalize hw9 : World.setCell _ _ _ = w9
    obtain ⟨h1, h2, h3, h4⟩ := H6.out.1.set (R := ⟨4, C.f1, 0, 0, C.f4, av.f1, r, []⟩) (Ar := none) (cr := 0) hw9.symm
    obtain ⟨y0, y1, y2, y3, y4, y5, y6, y7⟩ := cells8t h1
    have hut := Tryz.underlying33
    have HZ := am (And.intro h2 h4)
    clear h1 h2 h3 h4 hw9
    go_wp2
    refine bodyPost_ret (v := .tuple #[.slice (some ⟨g, 0, none⟩) ns.length c9, chv ⟨4, C.f1, 0, 0, C.f4, av.f1, r, []⟩ none 0, .int .i64 0]) (by simp [results, Tryz.results73, go_sem, y0, y1, y2, y3, y4, y5, y6, y7, hut]) rfl (show DidEnd _ _ _ _ _ _ from ?_)
    have hl : ((ns.set j (withAttrs nd lst))).length = ns.length := by simp
    have hz := HG3.out.2
    refine ⟨some ⟨g, 0, none⟩, c9, none, 0, by rw [hl], ?_, by rw [hl]; exact H6.out.2.2.2, none_reads _ _, Nat.le_refl _, below_drew1 HZ.out.2⟩
    rw [hl]
    exact Kd.F_mono (Kd.F_drew <| Kd.F_step H6.out.2.2.1 (fun k hk _ => HZ.out.1 k (by omega))) (fun k hk => by omega)
  ·clear HCS
   have s2 : (nj.f1 != 2) = false := by rw [← hnj]; simpa using hk
   clear hk
   have hil : i ≤ nd.f3.length := by split at hi <;> omega
   have s4 : (C.f4.toList == []) = false := by rw [dec_bytes]; exact decide_eq_false hn
   have s5 : (C.f0 == 5) = false := by rw [h0]; rfl
   have s9 : decide (r < 0) = true := decide_eq_true hr9
   have s10 : decide (0 ≤ r) = false := decide_eq_false (by omega)
   have HI := am (And.intro hil (And.intro hi (And.intro hnd hnl)))
   have HX := am hX
   have HLS := am (And.intro hl1 hlst)
   clear h0 hi hil hX hnd hnl hl1 hlst hn hr9
   rename World => wq
   go_wp2_with fail
   refine (HX.out wq (Kd.C_below HR.out HS2.out.s.b)).mono ?_
   rintro e w3 ⟨g, n, c9, rfl, hS3, hn3, hb3⟩
   subst hn3
   have HS3 := am (HS2.out.below hb3)
   have HG3 := am (And.intro hS3 (And.intro hb3.size (blk_lt HS2.out.z)))
   obtain ⟨A9, c8, ha3, hl9, hF9, hN3, hgb, hgl⟩ := attrs_of_S hS3 HJ.out
   rw [HI.out.2.2.1] at ha3 hl9 hF9
   obtain ⟨A10, c10, hcut2, hF10⟩ := cut_tail hF9 (i := i) HI.out.1 hl9
   have hcut1 := cut_head (A := A9) (i := i) HI.out.1 hl9
   have HP := am (And.intro hF9 (And.intro hgb (And.intro hF10 (And.intro hN3 (And.intro hl9 hgl)))))
   clear hF9 hgb hF10 hN3 hl9 hgl
   have HA3 := am (show Below w3.heap.size w3 (w3.alloc (mbox8 zC none 0 33)) ∧ (w3.alloc (mbox8 zC none 0 33)).heap[w3.heap.size]? = some (mbox8 zC none 0 33) from ⟨(Below.refl _ w3).alloc (Nat.le_refl _) _, blk_newest w3 _⟩)
   obtain ⟨n0, n1, n2, n3, n4, n5, n6, n7⟩ := cells8t HA3.out.2
   have nf := fun k => blk_frozen HA3.out.2 k
   clear hS3 hb3 hx0 hx1 hx2 hx3 hx4 hx5
   clear xt x0 x1 x2 x3 x4 x5 x6 x7 z0 z1 z2 z3 z4 z5 z6 z7 f0 f1 f2 f3 f4 f5 f6 f7
   obtain ⟨xt, x0, x1, x2, x3, x4, x5, x6, x7⟩ := HS3.out.s.cells
   go_upto_region 10 with (fail)
   have HB4 := am (show Below w3.heap.size w3 (w3.alloc (mbox8 ⟨5, C.f1, 0, 0, C.f4, ⟨#[]⟩, 0, []⟩ none 0 33)) ∧ (w3.alloc (mbox8 ⟨5, C.f1, 0, 0, C.f4, ⟨#[]⟩, 0, []⟩ none 0 33)).heap[w3.heap.size]? = some (mbox8 ⟨5, C.f1, 0, 0, C.f4, ⟨#[]⟩, 0, []⟩ none 0 33) from ⟨(Below.refl _ w3).alloc (Nat.le_refl _) _, blk_newest w3 _⟩)
   generalize hw4 : World.alloc w3 _ = w4 at HB4 ⊢
   have hz3 := HS3.out.s.b.size
   obtain ⟨rb, hrb⟩ : ∃ rb, rb = w3.heap.size := ⟨_, rfl⟩
   have HB4 := am (show Below w3.heap.size w3 w4 ∧ w4.heap[rb]? = some (mbox8 ⟨5, C.f1, 0, 0, C.f4, ⟨#[]⟩, 0, []⟩ none 0 33) ∧ rb = w3.heap.size from ⟨HB4.out.1, hrb ▸ HB4.out.2, hrb⟩)
   rw [← hrb]
   have HS4 := am (HS3.out.below HB4.out.1)
   clear hw4 hrb hz3 HA3 n0 n1 n2 n3 n4 n5 n6 n7 nf xt x0 x1 x2 x3 x4 x5 x6 x7
   obtain ⟨xt, x0, x1, x2, x3, x4, x5, x6, x7⟩ := HS4.out.s.cells
   go_upto_region 17 with (fail)
   go_cut [113] (fun v113 wc => v113 = .bool (decide (C.f6 < 0 ∨ (nd.f3.length : Int) < C.f6)) ∧ w4 = wc)
   case first =>
    cases u1 : decide (C.f6 < 0) <;> cases u2 : decide ((nd.f3.length : Int) < C.f6)
    all_goals
     have HI2 := am (show decide (C.f6 < 0 ∨ (nd.f3.length : Int) < C.f6) = (decide (C.f6 < 0) || decide ((nd.f3.length : Int) < C.f6)) from Bool.decide_or _ _)
     rw [u1, u2] at HI2
     go_wp2
     go_meet
     case rel => exact ⟨by rw [HI2.out]; rfl, rfl⟩
   rename_i hk9
   obtain ⟨rfl, rfl⟩ := hcut
   refine hk9 _ _ ?_
   clear hk9
   go_cut [14] (fun v14 wc => v14 = .int .i64 (i : Int) ∧ w4 = wc)
   case first =>
    cases hq : decide (C.f6 < 0 ∨ (nd.f3.length : Int) < C.f6)
    ·have HI2 := am (show (i : Int) = C.f6 from by rw [HI.out.2.1, if_neg (of_decide_eq_false hq)])
     go_wp2
     go_meet
     case rel => exact ⟨by rw [HI2.out], rfl⟩
    ·have HI2 := am (show (i : Int) = (nd.f3.length : Int) from by rw [HI.out.2.1, if_pos (of_decide_eq_true hq)])
     go_wp2
     go_meet
     case rel => exact ⟨by rw [HI2.out], rfl⟩
   obtain ⟨rfl, rfl⟩ := hcut
   have HD4 := am (And.intro (Below.refl w4.heap.size w4) (Below.refl w4.heap.size w4).drew)
   have HL := am (show ∀ W, Below w4.heap.size w4 W → Copied A9 c8 i nd.f3 W from fun W hW => copied (Kd.F_now (Kd.F_below (Kd.F_below HP.out.1 HB4.out.1) hW)) HP.out.2.2.2.2.1 HI.out.1 (by have := HI.out; omega))
   have HQ := am (show g < w3.heap.size ∧ w3.heap.size ≤ w4.heap.size ∧ wq.heap.size ≤ w3.heap.size from ⟨HP.out.2.2.2.2.2, HB4.out.1.size, HG3.out.2.1⟩)
   have HST := am (show ∀ W, Below w4.heap.size w4 W → (W.cell? ⟨w.heap.size + 1, 4, none⟩ = some (.string C.f4) ∧ W.cell? ⟨w.heap.size + 1, 5, none⟩ = some (.string C.f5)) from fun W hW => ⟨pw_cell_below hW x4, pw_cell_below hW x5⟩)
   go_wp2_with fail
   go_cut [15] (fun v15 wc => ∃ A11 c11, v15 = .slice A11 l1.length c11 ∧ Aside0 (Below w4.heap.size w4 wc ∧ Kd.N k149 149 wc w4.heap.size (fun k => wq.heap.size ≤ k ∧ k ≠ g) (.slice A11 l1.length c11) l1))
   case first =>
    go_region_held3 (fun W => W.cell? ⟨w.heap.size + 1, 4, none⟩ = some (.string C.f4) ∧ W.cell? ⟨w.heap.size + 1, 5, none⟩ = some (.string C.f5)) (first | (with_reducible exact HST.out _ (by with_reducible repeat (first | exact HD4.out.1 | exact HD4.out.2 | exact HB6.out | exact HB7.out.1 | apply below_alloc | apply below_drew1))) | go_keep) (first | (go_at_call 103; refine (HL.out _ (by with_reducible first | exact HD4.out.1 | exact HD4.out.2)).mono ?_; rintro e w6 ⟨A1, c1, rfl, hN6, hb6⟩; have HB6 := am (show Below w4.heap.size w4 w6 from (by with_reducible first | exact hb6 | exact below_step HD4.out.2 hb6)); have HN6 := am (show Kd.N k149 149 w6 w4.heap.size (fun k => w4.heap.size ≤ k) (.slice A1 i c1) (nd.f3.take i) from hN6); clear hN6 hb6) | (go_at_call 103; refine (HL.out _ (by with_reducible repeat (first | exact HD4.out.1 | exact HD4.out.2 | exact HB6.out | exact HB7.out.1 | apply below_alloc | apply below_drew1))).mono ?_; rintro e w6 ⟨A1, c1, rfl, hN6, hb6⟩; have HE6 := am (show w6.heap[w4.heap.size]? = some (.cells #[.string C.f4, .string C.f5] 149) from (by first | exact blk_below (blk_newest w4 _) hb6 | exact blk_below (w := World.drew _) (blk_newest w4 _) hb6 | exact blk_below (blk_newest w4.drew _) hb6)); have HB6 := am (show Below w4.heap.size w4 w6 from (below_step (by with_reducible repeat (first | exact HD4.out.1 | exact HD4.out.2 | exact HB6.out | exact HB7.out.1 | apply below_alloc | apply below_drew1)) hb6)); have HN7 := am (show Kd.N k149 149 w6 (w4.heap.size + 1) (fun k => w4.heap.size + 1 ≤ k) (.slice A1 i c1) (nd.f3.take i) from (by simpa using hN6)); clear hN6 hb6) | (refine Kd.N_append_rows_step k149 (w0 := w4) w4.heap.size (by rfl) (.tmp 119) (.tmp 125) 93 149 (.agg #[(.string ⟨#[]⟩), (.string ⟨#[]⟩)]) 32 (by rfl) Tryz.underlying93 info149 (by rfl) (by decide) (by omega) (.slice A1 i c1) (nd.f3.take i) [(⟨C.f4, C.f5⟩ : S149)] (some ⟨w6.heap.size, 0, none⟩) 1 1 (fun k => wq.heap.size ≤ k ∧ k ≠ g) (fun k => k = w6.heap.size) (by rfl) (by rfl) (Kd.N_alloc (Kd.N_mono HN6.out (fun k hk => by have := HQ.out; omega)) _) (one_F (blk_newest w6 _)) (fun k hk => by subst hk; exact ⟨⟨by have := HQ.out; have := HB6.out.size; omega, by have := HQ.out; have := HB6.out.size; omega⟩, fun e => by have h1 := Kd.N_lt HN6.out _ e.symm; omega⟩) (fun k hk => by have := HQ.out; have := HB6.out.size; first | omega | (simp at hk; omega)) (by with_reducible repeat (first | exact HB6.out | apply below_alloc | apply below_drew1)) (Below.size (by with_reducible repeat (first | exact HB6.out | apply below_alloc | apply below_drew1))) (by rw [List.length_take]; have := HI.out; omega) ?_; intro v7 w7 hN7 hb7 _ _; rw [HLS.out.1] at hN7; obtain ⟨A11, c11, hv7⟩ := Kd.N_slice hN7; subst hv7; have HB7 := am (And.intro hb7 hN7); clear hN7 hb7) | (refine Kd.N_append_rows_step k149 (w0 := w4) w4.heap.size (by rfl) (.tmp 119) (.tmp 125) 93 149 (.agg #[(.string ⟨#[]⟩), (.string ⟨#[]⟩)]) 32 (by rfl) Tryz.underlying93 info149 (by rfl) (by decide) (by omega) (.slice A1 i c1) (nd.f3.take i) [(⟨C.f4, C.f5⟩ : S149)] (some ⟨w4.heap.size, 0, none⟩) 1 1 (fun k => wq.heap.size ≤ k ∧ k ≠ g) (fun k => k = w4.heap.size) (by rfl) (by rfl) (Kd.N_lower (Kd.N_mono HN7.out (fun k hk => by have := HQ.out; omega)) (by omega)) (one_F HE6.out) (fun k hk => by subst hk; exact ⟨⟨by have := HQ.out; have := HB6.out.size; omega, by have := HQ.out; have := HB6.out.size; omega⟩, fun e => by have h1 := Kd.N_base HN7.out _ e.symm; omega⟩) (fun k hk => by have := HQ.out; have := HB6.out.size; first | omega | (simp at hk; omega)) (by with_reducible repeat (first | exact HB6.out | apply below_alloc | apply below_drew1)) (Below.size (by with_reducible repeat (first | exact HB6.out | apply below_alloc | apply below_drew1))) (by rw [List.length_take]; have := HI.out; omega) ?_; intro v7 w7 hN7 hb7 _ _; rw [HLS.out.1] at hN7; obtain ⟨A11, c11, hv7⟩ := Kd.N_slice hN7; subst hv7; have HB7 := am (And.intro hb7 hN7); clear hN7 hb7) | fail)
    all_goals
     go_wp2
     go_meet
     case rel => exact ⟨A11, c11, rfl, HB7⟩
   case rest =>
    obtain ⟨A11, c11, rfl, HB7⟩ := hcut
    have HS7 := am (HS4.out.below HB7.out.1)
    have HR7 := am (blk_below HB4.out.2.1 HB7.out.1)
    clear xt x0 x1 x2 x3 x4 x5 x6 x7
    go_upto_region 21 with (first | ((with_reducible refine gate_builtin (b := .append) (xs := #[.tmp 129, .tmp 132]) rfl ?_); at_builtin; refine Kd.N_append_rows k149 (w0 := w4) w4.heap.size rfl (.tmp 129) (.tmp 132) 93 149 (.agg #[(.string ⟨#[]⟩), (.string ⟨#[]⟩)]) 32 rfl Tryz.underlying93 info149 rfl (by decide) (by omega) (.slice A11 l1.length c11) l1 (nd.f3.drop i) A10 (nd.f3.length - i) c10 (fun k => wq.heap.size ≤ k ∧ k ≠ g) (fun k => wq.heap.size ≤ k ∧ k ≠ g ∧ k < w3.heap.size) rfl rfl HB7.out.2 (Kd.F_mono (Kd.F_below (Kd.F_below HP.out.2.2.1 HB4.out.1) HB7.out.1) (fun k hk => ⟨hk.1, hk.2.1, hk.2.2⟩)) (fun k hk => ⟨⟨hk.1, hk.2.1⟩, fun e => by have h1 := Kd.N_base HB7.out.2 k e.symm; have := HQ.out; omega⟩) (fun k hk => by have := HQ.out; have := HB7.out.1.size; omega) HB7.out.1 HB7.out.1.size (by have h1 := congrArg List.length HLS.out.1; rw [List.length_append, List.length_take] at h1; simp only [List.length_cons, List.length_nil] at h1; have := HI.out; omega) ?_; intro v8 w8 hN8 hb8 _ _; rw [HLS.out.2] at hN8; obtain ⟨A12, c12, hv8⟩ := Kd.N_slice hN8; subst hv8; have HB8 := am (And.intro hb8 hN8); obtain ⟨B8, d8, hcc8, hff8, _⟩ := node_cells (Kd.N_below (Kd.N_below HP.out.2.2.2.1 HB4.out.1) hb8) HJ.out; have hu8 := hcc8 3 _ rfl; have hg8 := hff8 3; clear hN8 hb8 hcc8 hff8) | fail)
    generalize hw8 : World.setCell w8 _ _ = w9
    have hN7 := Kd.N_below (Kd.N_below HP.out.2.2.2.1 HB4.out.1) HB8.out.1
    have hsz7 := HB8.out.1.size
    obtain ⟨hS6, hG6⟩ := store_attrs (okp := fun k => wq.heap.size ≤ k ∧ k ≠ g) hN7 HJ.out lst (Kd.N_reads' HB8.out.2).2.1 (Kd.N_F HB8.out.2) (fun _ hk => hk) hw8.symm
    rw [HI.out.2.2.1] at hS6
    have HS8 := am (HS4.out.below HB8.out.1)
    have HR8 := am (blk_below HB4.out.2.1 HB8.out.1)
    have H6 := am (show AB w w9 (some ad) ns.length c0 C A c ∧ w9.heap[rb]? = some (mbox8 ⟨5, C.f1, 0, 0, C.f4, ⟨#[]⟩, 0, []⟩ none 0 33) ∧ Kd.F k95 w9 (fun k => wq.heap.size ≤ k) (some ⟨g, 0, none⟩) ns.length (ns.set j (withAttrs nd lst)) ∧ ns.length ≤ c9 from by
     have hz := HG3.out.2
     have hz5 := HB4.out.2.2
     have hs5 := HS8.out.s.b.size
     have hh := fun k (h : k < w8.heap.size) (hk : k ≠ g) => hG6.block k h (fun e => hk (by injection e))
     have hrl := blk_lt (HR8.out)
     have hzc := And.intro HP.out.2.1 HQ.out
     have hzb := blk_lt HS8.out.z
     refine ⟨⟨⟨?_, (hh _ (by omega) (by omega)).trans HS8.out.s.t, (hh _ (by omega) (by omega)).trans HS8.out.s.c⟩, (hh _ (by omega) (by omega)).trans HS8.out.z⟩, (hh _ hrl (by omega)).trans (HR8.out), ?_, ?_⟩
     ·rw [← hw8]
      exact below_set HS8.out.s.b (show w.heap.size ≤ g by omega)
     ·exact Kd.N_F hS6
     ·exact (Kd.S_reads' HG3.out.1).2.1)
    clear hS6 hG6 hw8 hN7 hsz7 hu8 hg8
    obtain ⟨z0, z1, z2, z3, z4, z5, z6, z7⟩ := H6.out.1.zc
    have zf := fun k => blk_frozen H6.out.1.z k
    obtain ⟨n0, n1, n2, n3, n4, n5, n6, n7⟩ := cells8t H6.out.2.1
    go_region
    all_goals
     clear z0 z1 z2 z3 z4 z5 z6 z7 zf n0 n1 n2 n3 n4 n5 n6 n7
     generalize hw10 : World.setCell _ _ _ = w10
     obtain ⟨h1, h2, h3, h4⟩ := H6.out.1.set (R := ⟨5, C.f1, 0, 0, C.f4, ⟨#[]⟩, 0, []⟩) (Ar := none) (cr := 0) hw10.symm
     obtain ⟨y0, y1, y2, y3, y4, y5, y6, y7⟩ := cells8t h1
     have hut := Tryz.underlying33
     have HZ := am (And.intro h2 h4)
     clear h1 h2 h3 h4 hw10
     go_wp2
     refine bodyPost_ret (v := .tuple #[.slice (some ⟨g, 0, none⟩) ns.length c9, chv ⟨5, C.f1, 0, 0, C.f4, ⟨#[]⟩, 0, []⟩ none 0, .int .i64 0]) (by simp [results, Tryz.results73, go_sem, y0, y1, y2, y3, y4, y5, y6, y7, hut]) rfl (show DidEnd _ _ _ _ _ _ from ?_)
     have hl : ((ns.set j (withAttrs nd lst))).length = ns.length := by simp
     have hz := HG3.out.2
     refine ⟨some ⟨g, 0, none⟩, c9, none, 0, by rw [hl], ?_, by rw [hl]; exact H6.out.2.2.2, none_reads _ _, Nat.le_refl _, below_drew1 HZ.out.2⟩
     rw [hl]
     exact Kd.F_mono (Kd.F_drew <| Kd.F_step H6.out.2.2.1 (fun k hk _ => HZ.out.1 k (by omega))) (fun k hk => by omega)
  all_goals
   have HB3 := am (show Below wc.heap.size wc (wc.alloc (.cells #[] 95)) from (Below.refl _ wc).alloc (Nat.le_refl _) _)
   have HS3 := am (HS2.out.below HB3.out)
   have HN3 := am (blk_newest wc (.cells #[] 95))
   obtain ⟨z0, z1, z2, z3, z4, z5, z6, z7⟩ := HS3.out.zc
   obtain ⟨f0, f1, f2, f3, f4, f5, f6, f7⟩ := HS3.out.zf
   go_wp2
   clear z0 z1 z2 z3 z4 z5 z6 z7 xt x0 x1 x2 x3 x4 x5 x6 x7 f0 f1 f2 f3 f4 f5 f6 f7
   generalize hw3 : World.alloc wc _ = w3 at HB3 HS3 HN3 ⊢
   generalize hw9 : World.setCell _ _ _ = w9
   obtain ⟨h1, h2, h3, h4⟩ := HS3.out.set (R := zC) (Ar := none) (cr := 0) hw9.symm
   obtain ⟨y0, y1, y2, y3, y4, y5, y6, y7⟩ := cells8t h1
   have hut := Tryz.underlying33
   have HZ := am h4
   clear h1 h2 h3 h4 hw9
   refine bodyPost_ret (v := .tuple #[.slice (some ⟨wc.heap.size, 0, none⟩) 0 0, chv zC none 0, .int .i64 3]) (by simp [results, Tryz.results73, go_sem, y0, y1, y2, y3, y4, y5, y6, y7, hut]) rfl (show DidEnd _ _ _ _ _ _ from ?_)
   exact ⟨_, 0, none, 0, rfl, none_reads _ _, Nat.le_refl _, none_reads _ _, Nat.le_refl _, HZ.out⟩
end Go.Proofs.YthjgohbkpjhkeaaGreatDoor.Impl
