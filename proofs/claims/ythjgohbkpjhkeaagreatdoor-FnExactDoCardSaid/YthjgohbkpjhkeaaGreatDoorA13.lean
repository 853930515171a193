/- Part 13 of the proof: DoCp, DoSplice. -/
import Derived.Test.YthjgohbkpjhkeaaGreatDoorA1
import Derived.Test.YthjgohbkpjhkeaaGreatDoorA11
import Derived.Test.YthjgohbkpjhkeaaGreatDoorA10
import Derived.Test.YthjgohbkpjhkeaaGreatDoorA12
import Derived.Test.YthjgohbkpjhkeaaGreatDoorA6
set_option linter.unusedVariables false
set_option linter.unusedSimpArgs false
set_option maxHeartbeats 8000000
set_option maxRecDepth 100000
namespace Go.Proofs.YthjgohbkpjhkeaaGreatDoor.Impl
open Go.RowKit Go.Proofs.YthjgohbkpjhkeaaGreatDoorW.PrintWords Go.Proofs.YthjgohbkpjhkeaaGreatDoorW.PrintLast Go.Proofs.YthjgohbkpjhkeaaGreatDoorW.PrintMore Go.Proofs.YthjgohbkpjhkeaaGreatDoor.PFnExactDo Go.Proofs.YthjgohbkpjhkeaaGreatDoor.MapLib Go.Proofs.YthjgohbkpjhkeaaGreatDoor.FireSpec Go.Proofs.YthjgohbkpjhkeaaGreatDoor.Tr
def RowA (w w' : World) (v : Value) (xs : List S149) : Prop := Kd.R k149 149 w' w.heap.size (fun _ => True) v xs ∧ Below w.heap.size w w'
theorem l3Attrs_calls (A : Option Addr) (c : Nat) (xs : List S149) (w : World) (hr : Kd.C k149 w A xs.length xs) (hc : xs.length ≤ c) (hn : xs.length < 4398046511104) :
  Calls Tryz.prog 103 #[.slice A xs.length c] w fun e w' => ∃ v, e = .returned v ∧ RowA w w' v xs := by
 have HR := am hr
 clear hr
 go_enter Tryz.func103, Tryz.ntmps103
 go_wp2_with (first | ((with_reducible refine gate_dst (N := 3) rfl ?_); refine Kd.R_lit k149 (w0 := w) w.heap.size 149 ?hg (N := 3) ?hd (xs := ([] : List S149)) (inner := []) (ok := fun _ => True) (okp := fun _ => True) ?hr ?hp (fun _ hk => hk) trivial (Below.refl _ _) (Nat.le_refl _) (by simp) ?_; (case hd => rfl); (case hg => rfl); (case hr => (go_simp; done)); (case hp => exact (Reps.none _ _)); intro v1 w1 ho hb hg_ hn_; have HO := am ho; have HB := am hb; clear hg_ hn_ ho hb) | ((with_reducible refine gate_builtin (b := .append) (xs := #[.tmp 3, .tmp 4]) rfl ?_); at_builtin; refine Kd.R_append_rows k149 (w0 := w) w.heap.size rfl (.tmp 3) (.tmp 4) 93 149 (.agg #[.string ⟨#[]⟩, .string ⟨#[]⟩]) 32 rfl Tryz.underlying93 info149 rfl (by decide) (by omega) v1 [] xs _ _ _ (fun _ => True) (fun _ => False) rfl rfl ?aO ?aR (fun _ _ h => h) (fun _ h => h.elim) ?aF ?aB ?aS ?aL ?_; (case aR => exact Kd.C_below HR.out HB.out); (case aB => exact HB.out); (case aF => exact (fun _ _ => trivial)); (case aO => exact HO.out); (case aS => exact below_size HB.out); (case aL => rw [List.length_nil]; omega); intro v2 w2 ho hb hg hat; have HO2 := am (And.intro ho hb); clear ho hb hg hat) | fail)
 go_ret
 exact ⟨_, rfl, HO2.out⟩
theorem l5Node_calls (x : S95) (hn : x.f3.length < 4398046511104) (A : Option Addr) (c : Nat) (w : World) (hr : Kd.C k149 w A x.f3.length x.f3) (hc : x.f3.length ≤ c) :
  Calls Tryz.prog 82 #[.agg #[.int .i64 x.f0, .int .i64 x.f1, .string x.f2, .slice A x.f3.length c, .string x.f4, .int .i64 x.f5]] w fun e w' => ∃ v, e = .returned (.agg #[.int .i64 x.f0, .int .i64 x.f1, .string x.f2, v, .string x.f4, .int .i64 x.f5]) ∧ RowA w w' v x.f3 := by
 have hun := Tryz.underlying95
 have HS := am (fun W hW => l3Attrs_calls A c x.f3 W (Kd.C_below hr hW) hc hn)
 clear hr hc hn
 go_enter Tryz.func82, Tryz.ntmps82
 go_wp2_with (first | (go_at_call 103; refine (HS.out _ B2.two.b).mono ?_; rintro e w3 ⟨v, rfl, hR, hb3⟩; obtain ⟨A5, c5, rfl⟩ := Kd.R_slice hR; have h1 := blk_below B2.two.x hb3; have h2 := blk_below B2.two.y hb3; have H3 := am h2; have HB3 := am (below_step B2.two.b hb3); have HR3 := am hR; have y0 := blk_cell h1 0; have y1 := blk_cell h1 1; have y2 := blk_cell h1 2; have y3 := blk_cell h1 3; have y4 := blk_cell h1 4; have y5 := blk_cell h1 5; have g3 := blk_frozen h1 3; have z0 := blk_cell h2 0; have z1 := blk_cell h2 1; have z2 := blk_cell h2 2; have z3 := blk_cell h2 3; have z4 := blk_cell h2 4; have z5 := blk_cell h2 5; have f0 := blk_frozen h2 0; have f1 := blk_frozen h2 1; have f2 := blk_frozen h2 2; have f3 := blk_frozen h2 3; have f4 := blk_frozen h2 4; have f5 := blk_frozen h2 5; clear h1 h2 hR hb3) | fail)
 generalize hw9 : World.setCell _ _ _ = w9
 have h5 := sets_frame (b := w.heap.size) [.slice A5 x.f3.length c5] 3 w3
 have h6 := sets_all (b := w.heap.size + 1) [.int .i64 x.f0, .int .i64 x.f1, .string x.f2, .slice A5 x.f3.length c5, .string x.f4, .int .i64 x.f5] ((h5.1 _ (by omega)).trans H3.out) rfl hw9.symm
 have u := blk_cell h6.1
 refine bodyPost_ret (v := .agg #[.int .i64 x.f0, .int .i64 x.f1, .string x.f2, .slice A5 x.f3.length c5, .string x.f4, .int .i64 x.f5]) (by simp [results, Tryz.results82, go_sem, u, hun]) rfl ⟨_, rfl, ?_, h6.2.2.2 _ _ (h5.2.2 _ _ HB3.out (Nat.le_refl _)) (by omega)⟩
 exact Kd.R_lower (Kd.R_mono (Kd.R_move (Kd.R_bound HR3.out) (fun k hk => by
  have hk := hk.2.1
  simp at hk
  exact (h6.2.1 k (by omega)).trans (h5.1 k (by omega)))) (fun _ _ => trivial)) (by simp; omega)
theorem l5Nodes_calls (xs : List S95) (hn : xs.length < 2 ^ 30) (ha : ∀ n ∈ xs, n.f3.length < 4398046511104) (A : Option Addr) (c : Nat) (w : World) (hr : Kd.C k95 w A xs.length xs) (hc : xs.length ≤ c) :
  Calls Tryz.prog 51 #[.slice A xs.length c] w fun e w' => ∃ v, e = .returned v ∧ Kd.S k95 95 w' w.heap.size (fun _ => True) v xs ∧ Below w.heap.size w w' := by
 have HX := am (And.intro hr ha)
 have hn9 : xs.length ≤ 1073741824 := by omega
 clear hr ha hn
 go_enter Tryz.func51, Tryz.ntmps51
 go_wp2_with (first | ((with_reducible refine gate_dst (N := 5) rfl ?_); refine Kd.S_lit k95 (w0 := w) w.heap.size 95 ?hg (N := 5) ?hd (xs := ([] : List S95)) (inner := []) (ok := fun _ => True) (okp := fun _ => True) ?hr ?hp (fun _ hk => hk) trivial (Below.refl _ _) (Nat.le_refl _) (by simp) ?_; (case hd => rfl); (case hg => rfl); (case hr => (go_simp; done)); (case hp => exact (Reps.none _ _)); intro v1 w1 ho hb hg_ hn_; have HO1 := am ho; have HB1 := am hb; clear hg_ hn_ ho hb) | fail)
 go_loopg [3, 4] (xs.length + 1) (fun kq v3 v4 wr => ∃ i : Nat, v4 = .int .i64 i ∧ Aside0 (i + kq = xs.length + 1 ∧ i ≤ xs.length) ∧ Aside0 (Kd.S k95 95 wr w.heap.size (fun _ => True) v3 (xs.take i)) ∧ Aside0 (Below w.heap.size w wr))
 case atStart => exact ⟨0, rfl, ⟨by omega, by omega⟩, HO1, HB1⟩
 case round =>
  obtain ⟨i, rfl, HI, HO, HB⟩ := hrel
  have hd : decide ((i : Int) < (xs.length : Int)) = decide (i < xs.length) := by simp
  by_cases hlt : i < xs.length
  ·have hd2 : decide (i < xs.length) = true := decide_eq_true hlt
   rw [hd2] at hd
   have hib : (i : Int) ≤ 1073741824 := by omega
   have e3 := eq_true (show (0 : Int) ≤ (i : Int) from by omega)
   have e4 := eq_true (show (i : Int) < xs.length from by omega)
   obtain ⟨ad, A3, c3, hA, hx0, hx1, hx2, hx3, hx4, hx5, hl3, hi3⟩ := at_T95 (Kd.C_below HX.out.1 HB.out) (i : Int) (by omega) (by omega)
   subst hA
   rw [show rd_T95 xs (i : Int) = xs[i] from by simp [rd_T95, hlt]] at hx0 hx1 hx2 hx3 hx4 hx5 hl3 hi3
   simp only [Int.toNat_natCast] at hx0 hx1 hx2 hx3 hx4 hx5
   have htk : xs.take (i + 1) = xs.take i ++ [xs[i]] := List.take_succ_eq_append_getElem hlt
   have htl : (xs.take i).length ≤ 1073741824 := by rw [List.length_take]; omega
   have HN := am (l5Node_calls xs[i] (HX.out.2 _ (List.getElem_mem hlt)) A3 c3 wr hi3 hl3)
   have HI2 := am (And.intro hlt htk)
   generalize xs[i] = x at hx0 hx1 hx2 hx3 hx4 hx5 HN HI2
   have HT := am htl
   clear hlt htk hl3 hi3 htl
   generalize xs.take i = L at HO HI2 HT
   go_wp2_with (first | (go_at_call 82; refine HN.out.mono ?_; rintro e w2 ⟨v, rfl, hR, hb2⟩; have HO2 := am (Kd.S_elder' HO.out (Kd.R_base hR) hb2); have HR2 := am (Kd.R_mono (ok' := fun k => True ∧ some k ≠ u3.ownBlock) (Kd.R_apart' (Kd.R_lower hR (below_size HB.out)) (Kd.S_typed HO2.out) (by decide)) (fun k hk => ⟨trivial, hk.2⟩)); have HB2 := am (below_step HB.out hb2); clear hb2 hR) | ((with_reducible refine gate_builtin (b := .append) (xs := #[.tmp 12, .tmp 18]) rfl ?_); at_builtin; refine Kd.S_append k95 (w0 := w) w.heap.size rfl (.tmp 12) (.tmp 18) 29 95 (.agg #[.int .i64 0, .int .i64 0, .string ⟨#[]⟩, .slice none 0 0, .string ⟨#[]⟩, .int .i64 0]) 80 rfl Tryz.underlying29 info95 rfl (by decide) (by omega) u3 L x [.int .i64 x.f0, .int .i64 x.f1, .string x.f2, v, .string x.f4, .int .i64 x.f5] (fun _ => True) (fun k => some k = v.ownBlock) rfl rfl ?aP (fun k hk => HR2.out.1 k hk.symm) ?aF ?aO ?aB ?aS ?aL ?_; (case aP => exact k95_mkM _ _ _ x (Kd.R_mono (Kd.R_tight rfl HR2.out) (fun _ h_ => h_))); (case aB => exact HB2.out); (case aF => exact (fun _ _ => trivial)); (case aO => exact Kd.S_mono HO2.out (fun k hk => ⟨trivial, fun e => hk.2 e⟩)); (case aS => exact below_size HB2.out); (case aL => have := HT.out; omega); intro v9 w9 ho hb hg hat; have HO9 := am (And.intro ho hb); clear ho hb hg hat) | fail)
   have hii : (i : Int) + 1 = ((i + 1 : Nat) : Int) := by omega
   go_roundg (gk - 1)
   case measure => have := HI.out; have := HI2.out.1; omega
   case rel => exact ⟨i + 1, by rw [hii], ⟨by have := HI.out; have := HI2.out.1; omega, HI2.out.1⟩, ⟨by rw [HI2.out.2]; exact HO9.out.1⟩, ⟨HO9.out.2⟩⟩
  ·have hd2 : decide (i < xs.length) = false := decide_eq_false hlt
   rw [hd2] at hd
   have HE := am (show xs.take i = xs from List.take_of_length_le (by have := HI.out; omega))
   clear hlt
   go_wp2
   go_ret
   exact ⟨_, rfl, by rw [HE.out] at HO; exact HO.out, HB.out⟩
theorem node_cells {ns : List S95} {W : World} {base g n cap j : Nat} {ok : Nat → Prop} (h : Kd.N k95 95 W base ok (.slice (some ⟨g, 0, none⟩) n cap) ns) (hj : j < ns.length) : ∃ A c, (∀ i u, [Value.int .i64 (ns.getD j z95).f0, .int .i64 (ns.getD j z95).f1, .string (ns.getD j z95).f2, .slice A (ns.getD j z95).f3.length c, .string (ns.getD j z95).f4, .int .i64 (ns.getD j z95).f5][i]? = some u → W.cell? ⟨g, j * 6 + i, none⟩ = some u) ∧ (∀ i, W.frozen? ⟨g, j * 6 + i, none⟩ = false) ∧ (ns.getD j z95).f3.length ≤ c ∧ Kd.F k149 W (fun k => ok k ∧ k ≠ g) A (ns.getD j z95).f3.length (ns.getD j z95).f3 := by
 obtain ⟨c6, hcl, hM, hcc, hfr⟩ := Kd.N_elem h z95 (j : Int) (by omega) (by have := (Kd.N_reads' h).1; omega)
 obtain ⟨A, c, rfl, ul, ge⟩ := k95_openF hM
 simp only [Int.toNat_natCast] at hcc hfr ul ge
 exact ⟨A, c, hcc, hfr, ul, ge⟩
theorem store_kids {ns : List S95} {W : World} {base g n cap j : Nat} {ok : Nat → Prop} (h : Kd.N k95 95 W base ok (.slice (some ⟨g, 0, none⟩) n cap) ns) (hj : j < ns.length) (m : Int) {W' : World} (hw : W' = W.setCell ⟨g, j * 6 + 5, none⟩ (.int .i64 m)) : Kd.N k95 95 W' base ok (.slice (some ⟨g, 0, none⟩) n cap) (ns.set j ⟨(ns.getD j z95).f0, (ns.getD j z95).f1, (ns.getD j z95).f2, (ns.getD j z95).f3, (ns.getD j z95).f4, m⟩) := by
 obtain ⟨c6, hcl, hM, hcc, hfr⟩ := Kd.N_elem h z95 (j : Int) (by omega) (by have := (Kd.N_reads' h).1; omega)
 obtain ⟨A, c, rfl, ul, ge⟩ := k95_openF hM
 have HP := Kd.N_seg h (j : Int) (by omega) (by have := (Kd.N_reads' h).1; omega) (seg := [.int .i64 m]) (j := 5) hcl hcc (show 6 ≤ 6 from by decide) (x' := ⟨(ns.getD j z95).f0, (ns.getD j z95).f1, (ns.getD j z95).f2, (ns.getD j z95).f3, (ns.getD j z95).f4, m⟩) (k95_mkF _ _ (⟨(ns.getD j z95).f0, (ns.getD j z95).f1, (ns.getD j z95).f2, (ns.getD j z95).f3, (ns.getD j z95).f4, m⟩ : S95) ul ge) (fun _ hk => hk)
 subst hw
 exact HP.1
def Fits (ns : List S95) : Prop := ns.length < 2 ^ 30 ∧ ∀ n ∈ ns, n.f3.length < 4398046511104
theorem Fits.take {ns : List S95} (h : Fits ns) (i : Nat) : Fits (ns.take i) := ⟨by have := h.1; rw [List.length_take]; omega, fun n hn => h.2 n (List.mem_of_mem_take hn)⟩
theorem Fits.drop {ns : List S95} (h : Fits ns) (i : Nat) : Fits (ns.drop i) := ⟨by have := h.1; rw [List.length_drop]; omega, fun n hn => h.2 n (List.mem_of_mem_drop hn)⟩
def kidsBy (n : S95) (m : Int) : S95 := ⟨n.f0, n.f1, n.f2, n.f3, n.f4, n.f5 + m⟩
structure CutIs (ns : List S95) (j P e k : Nat) (c1 c2 : List S95) : Prop where
 fit : Fits ns
 hP : P < j
 hje : j ≤ e
 hel : e ≤ ns.length
 g1 : ParOf ns j P
 g2 : spec_l3Skip.f k ns j = some (e : Int)
 k0 : -1000000000 ≤ (ns.getD P z95).f5 ∧ (ns.getD P z95).f5 ≤ 1000000000
 h1 : c1 = (ns.take j ++ ns.drop e).set P (kidsBy (ns.getD P z95) (-1))
 h2 : c2 = (ns.take e).drop j
theorem l5Cut_calls {ns : List S95} {j P e k : Nat} {c1 c2 : List S95} (H : CutIs ns j P e k c1 c2) (A : Option Addr) (c : Nat) (w : World) (hr : Kd.C k95 w A ns.length ns) (hc : ns.length ≤ c) :
  Calls Tryz.prog 101 #[.slice A ns.length c, .int .i64 j] w fun e w' => ∃ B0 d0 B1 d1, e = .returned (.tuple #[.slice B0 c1.length d0, .slice B1 c2.length d1]) ∧ (Kd.F k95 w' (fun k => w.heap.size ≤ k) B0 c1.length c1 ∧ c1.length ≤ d0) ∧ (Kd.F k95 w' (fun k => w.heap.size ≤ k) B1 c2.length c2 ∧ c2.length ≤ d1) ∧ Below w.heap.size w w' := by
 have HR := am (And.intro hr hc)
 have HH := am H
 obtain ⟨i0, hi0, _, hsz, _⟩ := info_parts info95
 have hP := H.hP
 have hje := H.hje
 have hel := H.hel
 have hfl := H.fit.1
 have hc1 : ∀ W, (Instr.slice 29 (.slice A ns.length c) (some (.int .i64 (j : Int))) (some (.int .i64 (e : Int))) none).run Tryz.prog W = .ok (.slice (if c = j then A else A.map (·.add (j * 6))) (e - j) (c - j)) W := by
  have h := cut_mid (P := Tryz.prog) 29 95 .i64 .i64 Tryz.underlying29 hi0 6 hsz A ns.length c (j : Int) (e : Int) (by omega) (by omega) (by omega) hc
  simpa only [Int.toNat_natCast] using h
 have hc2 : ∀ W, (Instr.slice 29 (.slice A ns.length c) none (some (.int .i64 (j : Int))) none).run Tryz.prog W = .ok (.slice A j c) W := by
  have h := cut_to (P := Tryz.prog) 29 95 .i64 Tryz.underlying29 hi0 A ns.length c (j : Int) (by omega) (by omega) hc
  simpa only [Int.toNat_natCast] using h
 have hc3 : ∀ W, (Instr.slice 29 (.slice A ns.length c) (some (.int .i64 (e : Int))) none none).run Tryz.prog W = .ok (.slice (if c = e then A else A.map (·.add (e * 6))) (ns.length - e) (c - e)) W := by
  have h := cut_from (P := Tryz.prog) 29 95 .i64 Tryz.underlying29 hi0 6 hsz A ns.length c (e : Int) (by omega) (by omega)
  simpa only [Int.toNat_natCast] using h
 have r1 := fun W (h : Kd.C k95 W A ns.length ns) => Kd.C_mid (lo := j) (hi := e) (c := c) h (by omega) (by omega) hc
 have r2 := fun W (h : Kd.C k95 W A ns.length ns) => Kd.C_take (m := j) h (by omega)
 have r3 := fun W (h : Kd.C k95 W A ns.length ns) => Kd.C_drop (m := e) (c := c) h (by omega) hc
 change ∀ W, Kd.C k95 W A ns.length ns → Kd.C k95 W (if c = j then A else A.map (·.add (j * 6))) _ _ at r1
 change ∀ W, Kd.C k95 W A ns.length ns → Kd.C k95 W (if c = e then A else A.map (·.add (e * 6))) _ _ at r3
 generalize (if c = j then A else A.map (·.add (j * 6))) = A1 at hc1 r1
 generalize (if c = e then A else A.map (·.add (e * 6))) = A3 at hc3 r3
 have HQ := am (And.intro r1 (And.intro r2 r3))
 have l1 : ((ns.take e).drop j).length = e - j := by simp only [List.length_drop, List.length_take]; omega
 have l2 : (ns.take j).length = j := by simp only [List.length_take]; omega
 have l3 : (ns.drop e).length = ns.length - e := by simp only [List.length_drop]
 have HL := am (And.intro l1 (And.intro l2 l3))
 clear hr hc H r1 r2 r3 hfl hsz hi0 l1 l2 l3
 go_enter Tryz.func101, Tryz.ntmps101
 go_wp2_with fail
 refine (HH.out.g1 A c w HR.out.1 HR.out.2).mono ?_
 rintro e' w1 ⟨ad1, n1, c5, rfl, hx1, hjn, hb1⟩
 have HB1 := am hb1
 have e3 := eq_true (show (0 : Int) ≤ (j : Int) from by omega)
 have e4 := eq_true (show (j : Int) < (n1 : Int) from by omega)
 clear hb1 hjn
 go_wp2_with fail
 refine (spec_l3Skip.calls k A c ns j e w1 (Kd.C_below HR.out.1 HB1.out) HR.out.2 HH.out.g2).mono ?_
 rintro e' w2 ⟨rfl, hb2⟩
 have HB2 := am (below_step HB1.out hb2.below)
 clear hb2 hx1
 go_wp2_with fail
 have q1 := l5Nodes_calls ((ns.take e).drop j) ((HH.out.fit.take e).drop j).1 ((HH.out.fit.take e).drop j).2 A1 (c - j) w2 (HQ.out.1 _ (Kd.C_below HR.out.1 HB2.out)) (by rw [HL.out.1]; have := HR.out.2; omega)
 rw [HL.out.1] at q1
 refine q1.mono ?_
 rintro e' w3 ⟨v3, rfl, hS3, hb3⟩
 obtain ⟨B1, d1, e5⟩ := Kd.S_slice hS3
 rw [HL.out.1] at e5
 subst e5
 have HS3 := am (And.intro (Kd.F_mono (Kd.F_bound (Kd.N_F (Kd.S_N (Kd.S_bound hS3)))) (ok' := fun k => w2.heap.size ≤ k ∧ k < w3.heap.size) (fun k hk => ⟨hk.1.2.1, hk.2⟩)) (Kd.N_reads' (Kd.S_N hS3)).2.1)
 have HB3 := am (below_step HB2.out hb3)
 clear q1 hS3 hb3
 go_wp2_with fail
 have q2 := l5Nodes_calls (ns.take j) (HH.out.fit.take j).1 (HH.out.fit.take j).2 A c w3 (HQ.out.2.1 _ (Kd.C_below HR.out.1 HB3.out)) (by rw [HL.out.2.1]; have := HR.out.2; omega)
 rw [HL.out.2.1] at q2
 refine q2.mono ?_
 rintro e' w4 ⟨v4, rfl, hS4, hb4⟩
 obtain ⟨B4, d4, e5⟩ := Kd.S_slice hS4
 rw [HL.out.2.1] at e5
 subst e5
 have HN4 := am (Kd.N_mono (Kd.S_N (Kd.S_bound hS4)) (ok' := fun k => w3.heap.size ≤ k) (fun k hk => hk.2.1))
 have HB4 := am (And.intro (below_step HB3.out hb4) hb4)
 clear q2 hS4 hb4
 go_wp2_with fail
 have q3 := l5Nodes_calls (ns.drop e) (HH.out.fit.drop e).1 (HH.out.fit.drop e).2 A3 (c - e) w4 (HQ.out.2.2 _ (Kd.C_below HR.out.1 HB4.out.1)) (by rw [HL.out.2.2]; have := HR.out.2; omega)
 rw [HL.out.2.2] at q3
 refine q3.mono ?_
 rintro e' w5 ⟨v5, rfl, hS5, hb5⟩
 obtain ⟨B5, d5, e5⟩ := Kd.S_slice hS5
 rw [HL.out.2.2] at e5
 subst e5
 have HS5 := am (Kd.F_mono (Kd.N_F (Kd.S_N (Kd.S_bound hS5))) (ok' := fun k => w4.heap.size ≤ k) (fun k hk => hk.2.1))
 have HN5 := am (Kd.N_below HN4.out hb5)
 have HB5 := am (And.intro (below_step HB4.out.1 hb5) (below_step HB4.out.2 hb5))
 have HL4 := am (And.intro (Kd.N_lt HN4.out) (And.intro HB4.out.2.size hb5.size))
 clear q3 hS5 hb5
 obtain ⟨L, hL⟩ : ∃ L, ns.take j ++ ns.drop e = L := ⟨_, rfl⟩
 have hLl : L.length = j + (ns.length - e) := by rw [← hL, List.length_append, HL.out.2.1, HL.out.2.2]
 have hLg : L.getD P z95 = ns.getD P z95 := by rw [← hL, List.getD_eq_getElem?_getD, List.getElem?_append_left (by rw [HL.out.2.1]; exact hP), List.getElem?_take_of_lt hP, ← List.getD_eq_getElem?_getD]
 have HLL := am (And.intro hL (And.intro hLl hLg))
 obtain ⟨x, hx⟩ : ∃ x, (L.getD P z95).f5 = x := ⟨_, rfl⟩
 have hx0 := HH.out.k0
 rw [← hLg, hx] at hx0
 have HX := am hx
 obtain ⟨hx0, hx1⟩ := hx0
 have e5 := eq_true (show (0 : Int) ≤ (P : Int) from by omega)
 have e6 := eq_true (show (P : Int) < (L.length : Int) from by omega)
 clear hL hLl hLg hx e3 e4 hc1 hc2 hc3
 go_wp2_with (first | ((with_reducible refine gate_builtin (b := .append) (xs := #[.tmp 27, .tmp 31]) rfl ?_); at_builtin; refine Kd.N_append_rows k95 (w0 := w3) w3.heap.size rfl (.tmp 27) (.tmp 31) 29 95 (.agg #[.int .i64 0, .int .i64 0, .string ⟨#[]⟩, .slice none 0 0, .string ⟨#[]⟩, .int .i64 0]) 80 rfl Tryz.underlying29 info95 rfl (by decide) (by omega) (.slice B4 j d4) (ns.take j) (ns.drop e) B5 (ns.length - e) d5 (fun k => w3.heap.size ≤ k) (fun k => w4.heap.size ≤ k) rfl rfl HN5.out HS5.out ?aK ?aF HB5.out.2 ?aS ?aL ?_; (case aK => exact fun k hk => ⟨Nat.le_trans HL4.out.2.1 hk, fun h => by have := HL4.out.1 k h.symm; omega⟩); (case aF => exact fun k hk => Nat.le_trans (below_size HB5.out.2) hk); (case aS => exact below_size HB5.out.2); (case aL => have := HL.out.2.1; have := HH.out.fit.1; omega); intro v6 w6 ho hb hg hat; rw [HLL.out.1] at ho; obtain ⟨g, d6, e7, gb, _, _, _⟩ := Kd.N_form ho (by have := HLL.out.2.1; omega); subst e7; obtain ⟨A7, c7, hy, hf, _, _⟩ := node_cells (j := P) ho (by have := HLL.out.2.1; omega); have y5 := hy 5 _ rfl; rw [HX.out] at y5; have f5 := hf 5; have HO6 := am (And.intro ho (And.intro hb gb)); clear ho hb hg hat hy hf gb) | fail)
 generalize hw9 : World.setCell _ _ _ = w9
 have hK := store_kids HO6.out.1 (j := P) (by have := HLL.out.2.1; omega) (x - 1) hw9.symm
 have hB9 : Below w3.heap.size w3 w9 := hw9 ▸ below_set HO6.out.2.1 HO6.out.2.2
 have h1 : c1 = L.set P ⟨(L.getD P z95).f0, (L.getD P z95).f1, (L.getD P z95).f2, (L.getD P z95).f3, (L.getD P z95).f4, x - 1⟩ := by
  rw [HH.out.h1, HLL.out.1, ← HX.out, HLL.out.2.2]
  rfl
 have hl : c1.length = L.length := by rw [h1, List.length_set]
 have hl2 : c2.length = e - j := by rw [HH.out.h2, HL.out.1]
 go_ret2
 refine ⟨some ⟨g, 0, none⟩, d6, B1, d1, by rw [hl, hl2]; rfl, ⟨?_, ?_⟩, ⟨?_, ?_⟩, below_step HB3.out hB9⟩
 ·rw [hl, h1]
  exact Kd.F_mono (Kd.N_F hK) (fun k hk => Nat.le_trans (below_size HB3.out) hk)
 ·rw [hl]
  exact (Kd.N_reads' hK).2.1
 ·rw [hl2, HH.out.h2]
  exact Kd.F_mono (Kd.F_step HS3.out.1 (fun k hk _ => hB9.block k hk.2)) (fun k hk => Nat.le_trans (below_size HB2.out) hk.1)
 ·rw [hl2]
  exact HS3.out.2
structure PutIs (ns : List S95) (p : Nat) (i : Int) (q k : Nat) (what out : List S95) : Prop where
 fit : Fits ns
 fitW : Fits what
 hpq : p < q
 hq : q ≤ ns.length
 g1 : spec_l5Place.f k ns p i = some (q : Int)
 k0 : -1000000000 ≤ (ns.getD p z95).f5 ∧ (ns.getD p z95).f5 ≤ 1000000000
 h1 : out = (ns.take q ++ what ++ ns.drop q).set p (kidsBy (ns.getD p z95) 1)
theorem l5Put_calls {ns : List S95} {p : Nat} {i : Int} {q k : Nat} {what out : List S95} (H : PutIs ns p i q k what out) (A : Option Addr) (c : Nat) (A2 : Option Addr) (c2 : Nat) (w : World) (hr : Kd.C k95 w A ns.length ns) (hc : ns.length ≤ c) (hr2 : Kd.C k95 w A2 what.length what) (hc2 : what.length ≤ c2) :
  Calls Tryz.prog 70 #[.slice A ns.length c, .int .i64 p, .int .i64 i, .slice A2 what.length c2] w fun e w' => ∃ B0 d0, e = .returned (.slice B0 out.length d0) ∧ Kd.F k95 w' (fun k => w.heap.size ≤ k) B0 out.length out ∧ out.length ≤ d0 ∧ Below w.heap.size w w' := by
 have HR := am (And.intro hr hc)
 have HR2 := am (And.intro hr2 hc2)
 have HH := am H
 obtain ⟨i0, hi0, _, hsz, _⟩ := info_parts info95
 have hpq := H.hpq
 have hq := H.hq
 have hfl := H.fit.1
 have hfw := H.fitW.1
 have hc1 : ∀ W, (Instr.slice 29 (.slice A ns.length c) none (some (.int .i64 (q : Int))) none).run Tryz.prog W = .ok (.slice A q c) W := by
  have h := cut_to (P := Tryz.prog) 29 95 .i64 Tryz.underlying29 hi0 A ns.length c (q : Int) (by omega) (by omega) hc
  simpa only [Int.toNat_natCast] using h
 have hc3 : ∀ W, (Instr.slice 29 (.slice A ns.length c) (some (.int .i64 (q : Int))) none none).run Tryz.prog W = .ok (.slice (if c = q then A else A.map (·.add (q * 6))) (ns.length - q) (c - q)) W := by
  have h := cut_from (P := Tryz.prog) 29 95 .i64 Tryz.underlying29 hi0 6 hsz A ns.length c (q : Int) (by omega) (by omega)
  simpa only [Int.toNat_natCast] using h
 have r2 := fun W (h : Kd.C k95 W A ns.length ns) => Kd.C_take (m := q) h (by omega)
 have r3 := fun W (h : Kd.C k95 W A ns.length ns) => Kd.C_drop (m := q) (c := c) h (by omega) hc
 change ∀ W, Kd.C k95 W A ns.length ns → Kd.C k95 W (if c = q then A else A.map (·.add (q * 6))) _ _ at r3
 generalize (if c = q then A else A.map (·.add (q * 6))) = A3 at hc3 r3
 have HQ := am (And.intro r2 r3)
 have l2 : (ns.take q).length = q := by simp only [List.length_take]; omega
 have l3 : (ns.drop q).length = ns.length - q := by simp only [List.length_drop]
 have HL := am (And.intro l2 l3)
 clear hr hc hr2 hc2 H r2 r3 hfl hsz hi0 l2 l3
 go_enter Tryz.func70, Tryz.ntmps70
 go_wp2_with fail
 refine (spec_l5Place.calls k A c ns p i q w HR.out.1 HR.out.2 HH.out.g1).mono ?_
 rintro e' w1 ⟨rfl, hb1⟩
 have HB1 := am hb1
 clear hb1
 go_wp2_with fail
 have q2 := l5Nodes_calls (ns.take q) (HH.out.fit.take q).1 (HH.out.fit.take q).2 A c w1 (HQ.out.1 _ (Kd.C_below HR.out.1 HB1.out)) (by rw [HL.out.1]; have := HR.out.2; omega)
 rw [HL.out.1] at q2
 refine q2.mono ?_
 rintro e' w4 ⟨v4, rfl, hS4, hb4⟩
 obtain ⟨B4, d4, e5⟩ := Kd.S_slice hS4
 rw [HL.out.1] at e5
 subst e5
 have HN4 := am (Kd.N_mono (Kd.S_N (Kd.S_bound hS4)) (ok' := fun k => w1.heap.size ≤ k) (fun k hk => hk.2.1))
 have HB4 := am (And.intro (below_step HB1.out hb4) hb4)
 clear q2 hS4 hb4
 go_wp2_with fail
 refine (l5Nodes_calls what HH.out.fitW.1 HH.out.fitW.2 A2 c2 w4 (Kd.C_below HR2.out.1 HB4.out.1) HR2.out.2).mono ?_
 rintro e' w5 ⟨v5, rfl, hS5, hb5⟩
 obtain ⟨B5, d5, rfl⟩ := Kd.S_slice hS5
 have HS5 := am (Kd.F_mono (Kd.N_F (Kd.S_N (Kd.S_bound hS5))) (ok' := fun k => w4.heap.size ≤ k) (fun k hk => hk.2.1))
 have HN5 := am (Kd.N_below HN4.out hb5)
 have HB5 := am (And.intro (below_step HB4.out.1 hb5) (below_step HB4.out.2 hb5))
 have HL4 := am (And.intro (Kd.N_lt HN4.out) (And.intro HB4.out.2.size hb5.size))
 clear hS5 hb5
 go_wp2_with (first | ((with_reducible refine gate_builtin (b := .append) (xs := #[.tmp 19, .tmp 21]) rfl ?_); at_builtin; refine Kd.N_append_rows k95 (w0 := w1) w1.heap.size rfl (.tmp 19) (.tmp 21) 29 95 (.agg #[.int .i64 0, .int .i64 0, .string ⟨#[]⟩, .slice none 0 0, .string ⟨#[]⟩, .int .i64 0]) 80 rfl Tryz.underlying29 info95 rfl (by decide) (by omega) (.slice B4 q d4) (ns.take q) what B5 what.length d5 (fun k => w1.heap.size ≤ k) (fun k => w4.heap.size ≤ k) rfl rfl HN5.out HS5.out ?aK ?aF HB5.out.2 ?aS ?aL ?_; (case aK => exact fun k hk => ⟨Nat.le_trans HL4.out.2.1 hk, fun h => by have := HL4.out.1 k h.symm; omega⟩); (case aF => exact fun k hk => Nat.le_trans (below_size HB5.out.2) hk); (case aS => exact below_size HB5.out.2); (case aL => have := HL.out; have := HH.out.fit.1; have := HH.out.fitW.1; (try rw [List.length_append]); omega); intro v6 w6 ho hb hg hat; obtain ⟨B6, d6, e6⟩ := Kd.N_slice ho; rw [List.length_append, HL.out.1] at e6; subst e6; have HN6 := am ho; have HB6 := am (And.intro (below_step HB1.out hb) hb); clear ho hb hg hat) | fail)
 have q3 := l5Nodes_calls (ns.drop q) (HH.out.fit.drop q).1 (HH.out.fit.drop q).2 A3 (c - q) w6 (HQ.out.2 _ (Kd.C_below HR.out.1 HB6.out.1)) (by rw [HL.out.2]; have := HR.out.2; omega)
 rw [HL.out.2] at q3
 refine q3.mono ?_
 rintro e' w7 ⟨v7, rfl, hS7, hb7⟩
 obtain ⟨B7, d7, e5⟩ := Kd.S_slice hS7
 rw [HL.out.2] at e5
 subst e5
 have HS7 := am (Kd.F_mono (Kd.N_F (Kd.S_N (Kd.S_bound hS7))) (ok' := fun k => w6.heap.size ≤ k) (fun k hk => hk.2.1))
 have HN7 := am (Kd.N_below HN6.out hb7)
 have HB7 := am (And.intro (below_step HB6.out.1 hb7) (below_step HB6.out.2 hb7))
 have HL6 := am (And.intro (Kd.N_lt HN6.out) (And.intro HB6.out.2.size hb7.size))
 clear q3 hS7 hb7
 obtain ⟨L, hL⟩ : ∃ L, ns.take q ++ what ++ ns.drop q = L := ⟨_, rfl⟩
 have hLl : L.length = q + what.length + (ns.length - q) := by rw [← hL, List.length_append, List.length_append, HL.out.1, HL.out.2]
 have hLg : L.getD p z95 = ns.getD p z95 := by rw [← hL, List.append_assoc, List.getD_eq_getElem?_getD, List.getElem?_append_left (by rw [HL.out.1]; exact hpq), List.getElem?_take_of_lt hpq, ← List.getD_eq_getElem?_getD]
 have HLL := am (And.intro hL (And.intro hLl hLg))
 obtain ⟨x, hx⟩ : ∃ x, (L.getD p z95).f5 = x := ⟨_, rfl⟩
 have hx0 := HH.out.k0
 rw [← hLg, hx] at hx0
 have HX := am hx
 obtain ⟨hx0, hx1⟩ := hx0
 have e5 := eq_true (show (0 : Int) ≤ (p : Int) from by omega)
 have e6 := eq_true (show (p : Int) < (L.length : Int) from by omega)
 clear hL hLl hLg hx hc1 hc3
 go_wp2_with (first | ((with_reducible refine gate_builtin (b := .append) (xs := #[.tmp 23, .tmp 27]) rfl ?_); at_builtin; refine Kd.N_append_rows k95 (w0 := w1) w1.heap.size rfl (.tmp 23) (.tmp 27) 29 95 (.agg #[.int .i64 0, .int .i64 0, .string ⟨#[]⟩, .slice none 0 0, .string ⟨#[]⟩, .int .i64 0]) 80 rfl Tryz.underlying29 info95 rfl (by decide) (by omega) (.slice B6 (q + what.length) d6) (ns.take q ++ what) (ns.drop q) B7 (ns.length - q) d7 (fun k => w1.heap.size ≤ k) (fun k => w6.heap.size ≤ k) rfl rfl HN7.out HS7.out ?aK ?aF HB7.out.2 ?aS ?aL ?_; (case aK => exact fun k hk => ⟨Nat.le_trans HL6.out.2.1 hk, fun h => by have := HL6.out.1 k h.symm; omega⟩); (case aF => exact fun k hk => Nat.le_trans (below_size HB7.out.2) hk); (case aS => exact below_size HB7.out.2); (case aL => have := HL.out; have := HH.out.fit.1; have := HH.out.fitW.1; (try rw [List.length_append]); omega); intro v8 w8 ho hb hg hat; rw [HLL.out.1] at ho; obtain ⟨g, d8, e7, gb, _, _, _⟩ := Kd.N_form ho (by have := HLL.out.2.1; omega); subst e7; obtain ⟨A9, c9, hy, hf, _, _⟩ := node_cells (j := p) ho (by have := HLL.out.2.1; omega); have y5 := hy 5 _ rfl; rw [HX.out] at y5; have f5 := hf 5; have HO8 := am (And.intro ho (And.intro hb gb)); clear ho hb hg hat hy hf gb) | fail)
 generalize hw9 : World.setCell _ _ _ = w9
 have hK := store_kids HO8.out.1 (j := p) (by have := HLL.out.2.1; omega) (x + 1) hw9.symm
 have hB9 : Below w1.heap.size w1 w9 := hw9 ▸ below_set HO8.out.2.1 HO8.out.2.2
 have h1 : out = L.set p ⟨(L.getD p z95).f0, (L.getD p z95).f1, (L.getD p z95).f2, (L.getD p z95).f3, (L.getD p z95).f4, x + 1⟩ := by
  rw [HH.out.h1, HLL.out.1, ← HX.out, HLL.out.2.2]
  rfl
 have hl : out.length = L.length := by rw [h1, List.length_set]
 go_ret
 refine ⟨some ⟨g, 0, none⟩, d8, by rw [hl]; rfl, ?_, ?_, below_step HB1.out hB9⟩
 ·rw [hl, h1]
  exact Kd.F_mono (Kd.N_F hK) (fun k hk => Nat.le_trans (below_size HB1.out) hk)
 ·rw [hl]
  exact (Kd.N_reads' hK).2.1
def CutTo (ns : List S95) (j : Nat) (c1 c2 : List S95) : Prop := ∃ P e k, CutIs ns j P e k c1 c2
theorem CutTo.calls {ns : List S95} {j : Nat} {c1 c2 : List S95} (H : CutTo ns j c1 c2) (A : Option Addr) (c : Nat) (w : World) (hr : Kd.C k95 w A ns.length ns) (hc : ns.length ≤ c) :
  Calls Tryz.prog 101 #[.slice A ns.length c, .int .i64 j] w fun e w' => ∃ B0 d0 B1 d1, e = .returned (.tuple #[.slice B0 c1.length d0, .slice B1 c2.length d1]) ∧ (Kd.F k95 w' (fun k => w.heap.size ≤ k) B0 c1.length c1 ∧ c1.length ≤ d0) ∧ (Kd.F k95 w' (fun k => w.heap.size ≤ k) B1 c2.length c2 ∧ c2.length ≤ d1) ∧ Below w.heap.size w w' := by
 obtain ⟨P, e, k, H⟩ := H
 exact l5Cut_calls H A c w hr hc
def PutTo (ns : List S95) (p i : Int) (what out : List S95) : Prop := ∃ pn q k, p = ((pn : Nat) : Int) ∧ PutIs ns pn i q k what out
theorem PutTo.calls {ns : List S95} {p i : Int} {what out : List S95} (H : PutTo ns p i what out) (A : Option Addr) (c : Nat) (A2 : Option Addr) (c2 : Nat) (w : World) (hr : Kd.C k95 w A ns.length ns) (hc : ns.length ≤ c) (hr2 : Kd.C k95 w A2 what.length what) (hc2 : what.length ≤ c2) :
  Calls Tryz.prog 70 #[.slice A ns.length c, .int .i64 p, .int .i64 i, .slice A2 what.length c2] w fun e w' => ∃ B0 d0, e = .returned (.slice B0 out.length d0) ∧ Kd.F k95 w' (fun k => w.heap.size ≤ k) B0 out.length out ∧ out.length ≤ d0 ∧ Below w.heap.size w w' := by
 obtain ⟨pn, q, k, rfl, H⟩ := H
 exact l5Put_calls H A c A2 c2 w hr hc hr2 hc2
end Go.Proofs.YthjgohbkpjhkeaaGreatDoor.Impl
namespace Go.Proofs.YthjgohbkpjhkeaaGreatDoor.Sl
open Go.RowKit Go.Lib Go.Proofs.YthjgohbkpjhkeaaGreatDoorW.PrintWords Go.Proofs.YthjgohbkpjhkeaaGreatDoorW.PrintLast Go.Proofs.YthjgohbkpjhkeaaGreatDoorW.PrintMore Go.Proofs.YthjgohbkpjhkeaaGreatDoor.PFnExactDo Go.Proofs.YthjgohbkpjhkeaaGreatDoor.Impl
def splice (i sz : Nat) (inner cs : List Value) : List Value := inner.take (i * sz) ++ cs ++ inner.drop (i * sz)
theorem splice_of {i n sz : Nat} {inner cs L : List Value} (hi : i ≤ n) (hl : inner.length = n * sz) (hc : cs.length = sz) (hL : (n + 1) * sz ≤ L.length)
  (h1 : ∀ j, j < i * sz → L[j]? = inner[j]?) (h2 : ∀ j, j < sz → L[i * sz + j]? = cs[j]?) (h3 : ∀ j, j < n * sz - i * sz → L[i * sz + sz + j]? = inner[i * sz + j]?) : L.take ((n + 1) * sz) = splice i sz inner cs := by
 have hm : i * sz ≤ n * sz := Nat.mul_le_mul_right _ hi
 have hs : (n + 1) * sz = n * sz + sz := Nat.succ_mul _ _
 apply List.ext_getElem?
 intro j
 unfold splice
 rw [List.getElem?_take]
 by_cases hj : j < (n + 1) * sz
 ·rw [if_pos hj]
  by_cases c1 : j < i * sz
  ·rw [h1 j c1, List.append_assoc, List.getElem?_append_left (by rw [List.length_take]; omega), List.getElem?_take, if_pos c1]
  ·by_cases c2 : j < i * sz + sz
   ·have := h2 (j - i * sz) (by omega)
    rw [show i * sz + (j - i * sz) = j from by omega] at this
    rw [this, List.append_assoc, List.getElem?_append_right (by rw [List.length_take]; omega), List.length_take, Nat.min_eq_left (by omega), List.getElem?_append_left (by omega)]
   ·have := h3 (j - (i * sz + sz)) (by omega)
    rw [show i * sz + sz + (j - (i * sz + sz)) = j from by omega] at this
    rw [this, List.getElem?_append_right (by rw [List.length_append, List.length_take]; omega), List.length_append, List.length_take, Nat.min_eq_left (by omega), hc, List.getElem?_drop]
 ·rw [if_neg hj]
  symm
  apply List.getElem?_eq_none
  rw [List.length_append, List.length_append, List.length_take, List.length_drop]
  omega
theorem splice_end {n sz : Nat} {inner cs : List Value} (hl : inner.length = n * sz) : splice n sz inner cs = inner ++ cs := by
 unfold splice
 rw [List.take_of_length_le (by omega), List.drop_eq_nil_of_le (by omega), List.append_nil]
theorem setCells_get {g : Nat} {e : TypeId} {cs : List Value} {o : Nat} {w : World} {cur : Array Value} (h : w.heap[g]? = some (.cells cur e (0, 0))) (hf : o + cs.length ≤ cur.size) :
  ∃ cur', (w.setCells g o cs).heap[g]? = some (.cells cur' e (0, 0)) ∧ cur'.size = cur.size ∧ ∀ j, cur'[j]? = if o ≤ j ∧ j < o + cs.length then cs[j - o]? else cur[j]? := by
 obtain ⟨cur', h3, h4, h5⟩ := setCells_row cs o w cur h hf
 refine ⟨cur', h3, h4, fun j => ?_⟩
 rw [← Array.getElem?_toList, h5]
 by_cases c1 : j < o
 ·rw [if_neg (by omega), List.append_assoc, List.getElem?_append_left (by rw [List.length_take]; simp; omega), List.getElem?_take, if_pos c1, Array.getElem?_toList]
 ·by_cases c2 : j < o + cs.length
  ·rw [if_pos (by omega), List.append_assoc, List.getElem?_append_right (by rw [List.length_take]; omega), List.length_take, Nat.min_eq_left (by simp; omega), List.getElem?_append_left (by omega)]
  ·rw [if_neg (by omega), List.getElem?_append_right (by rw [List.length_append, List.length_take]; omega), List.length_append, List.length_take, Nat.min_eq_left (by simp; omega), List.getElem?_drop, show o + cs.length + (j - (o + cs.length)) = j from by omega, Array.getElem?_toList]
theorem shape_of {w : World} {b k : Nat} {cs : Array Value} {e : TypeId} (h : w.heap[b]? = some (.cells cs e (0, 0))) (hk : cs.size = k) : w.shape? b = some (e, k) := by
 subst hk
 simp [World.shape?, h]
def Flat {α : Type} (d : Kd α) : Prop := ∀ w base ok x cs w' base' ok', d.M w base ok x cs → d.M w' base' ok' x cs
theorem flat_scalar {α : Type} (enc : α → Value) (h1 : ∀ x, (enc x).oneCell' = true) : Flat (Kd.scalar enc h1) := fun _ _ _ _ _ _ _ _ h => h
theorem flat_attr : Flat k149 := fun _ _ _ _ _ _ _ _ h => h
theorem splice_R {α : Type} {d : Kd α} (hf : Flat d) {e base : Nat} {w w' : World} {v' : Value} {xs : List α} {inner cs : List Value} {i : Nat} {p : α} {ok0 ok1 : Nat → Prop} {b0 b1 : Nat} {wp : World}
  (hr : Reps (d.M w b0 ok0) d.sz xs inner) (hp : d.M wp b1 ok1 p cs) (hi : i ≤ xs.length) (ho : w'.ownsRow base e d.sz v' (xs.length + 1) (splice i d.sz inner cs)) : Kd.R d e w' base (fun _ => True) v' (xs.take i ++ p :: xs.drop i) := by
 have hl : (xs.take i ++ p :: xs.drop i).length = xs.length + 1 := by
  rw [List.length_append, List.length_take, List.length_cons, List.length_drop]; omega
 refine ⟨fun _ _ => trivial, splice i d.sz inner cs, by rw [hl]; exact ho, ?_⟩
 have hcs := d.K_len (d.K_of_M hp)
 have hone : Reps (d.M w' base (fun k => True ∧ some k ≠ v'.ownBlock)) d.sz [p] cs := by
  have h := (Reps.none (d.M w' base (fun k => True ∧ some k ≠ v'.ownBlock)) d.sz).snoc (hf _ _ _ _ _ w' base _ hp) hcs
  simpa using h
 have h1 := (Kd.reps_take hr hi).imp_ (fun p q h => hf _ _ _ _ _ w' base (fun k => True ∧ some k ≠ v'.ownBlock) h)
 have h2 := (Kd.reps_drop (m := i) hr).imp_ (fun p q h => hf _ _ _ _ _ w' base (fun k => True ∧ some k ≠ v'.ownBlock) h)
 have := Kd.reps_append (Kd.reps_append h1 hone) h2
 unfold splice
 simpa using this
theorem reps_ones {α : Type} {d : Kd α} {w : World} {base : Nat} {ok : Nat → Prop} {xs : List α} {inner : List Value} (hr : Reps (d.M w base ok) d.sz xs inner) : ∀ u ∈ inner, u.oneCell' = true := by
 intro u hu
 obtain ⟨q, hq, rfl⟩ := List.mem_iff_getElem.1 hu
 have hin := hr.1
 have hs0 : 0 < d.sz := by
  rcases Nat.eq_zero_or_pos d.sz with h | h
  ·rw [h, Nat.mul_zero] at hin; omega
  ·exact h
 have hql : q / d.sz < xs.length := by
  rw [Nat.div_lt_iff_lt_mul hs0, ← hr.1]
  exact hq
 refine d.K_one (d.K_of_M (hr.2 (q / d.sz) _ (List.getElem?_eq_getElem hql))) _ ?_
 rw [List.mem_iff_getElem?]
 refine ⟨q % d.sz, ?_⟩
 rw [List.getElem?_take, if_pos (Nat.mod_lt _ hs0), List.getElem?_drop, Nat.mul_comm, Nat.div_add_mod, List.getElem?_eq_getElem hq]
end Go.Proofs.YthjgohbkpjhkeaaGreatDoor.Sl
