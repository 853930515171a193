/- Part 19 of the proof: PtM. -/
import Derived.Test.YtnjnoabldjodcaaDoorA18
import Derived.Test.YtnjnoabldjodcaaDoorA1
namespace Go.Proofs.YtnjnoabldjodcaaDoor.PFnExactTokens
open Go.RowKit Go.Proofs.YtnjnoabldjodcaaDoorW.PrintWords Go.Proofs.YtnjnoabldjodcaaDoorW.PrintLast Go.Proofs.YtnjnoabldjodcaaDoorW.PrintMore
attribute [local go_sem] max2_int min2_int max_two min_two max_three min_three max_four min_four
set_option linter.unusedVariables false
set_option linter.unusedSimpArgs false
def laws_eqToken.f (k : Nat) (a0_0 : Int) (a0_1 : ByteArray) (l0_2 : List (S62)) (a0_3 : ByteArray) (a0_4 : Bool) (a1_0 : Int) (a1_1 : ByteArray) (l1_2 : List (S62)) (a1_3 : ByteArray) (a1_4 : Bool) : Option (Bool) := if a0_0 = a1_0 then (if a0_1.toList = a1_1.toList then ((laws_eqAttrS.f k l0_2 l1_2).bind fun t361 => (if t361 = true then (if a0_3.toList = a1_3.toList then (if (a0_4 != a1_4) = true then (some false) else (some true)) else (some false)) else (some false))) else (some false)) else (some false)
theorem laws_eqToken.mono : ∀ a0 a1 a2 a3 a4 a5 a6 a7 a8 a9 k, LeO (laws_eqToken.f k a0 a1 a2 a3 a4 a5 a6 a7 a8 a9) (laws_eqToken.f (k + 1) a0 a1 a2 a3 a4 a5 a6 a7 a8 a9) := by
  intro a0 a1 a2 a3 a4 a5 a6 a7 a8 a9 k
  unfold laws_eqToken.f
  repeat' first
      | (with_reducible exact laws_eqAttrS.mono _ _ _)
      | (with_reducible exact LeO.refl _)
      | (with_reducible exact LeO.none _)
      | (with_reducible refine LeO.ite ?_ ?_)
      | (with_reducible refine LeO.bind ?_ (fun _ => ?_))
      | exact laws_eqAttrS.mono _ _ _
      | exact LeO.none _
      | refine LeO.ite ?_ ?_
      | refine LeO.bind ?_ (fun _ => ?_)
set_option maxHeartbeats 8000000 in
set_option maxRecDepth 100000 in
theorem laws_eqToken.calls (k : Nat) (a0_0 : Int) (a0_1 : ByteArray) (A0_2 : Option Addr) (c0_2 : Nat) (l0_2 : List (S62)) (a0_3 : ByteArray) (a0_4 : Bool) (a1_0 : Int) (a1_1 : ByteArray) (A1_2 : Option Addr) (c1_2 : Nat) (l1_2 : List (S62)) (a1_3 : ByteArray) (a1_4 : Bool) (r : Bool) (w : World) (hr0_2 : Kd.C k62 w A0_2 l0_2.length l0_2) (hc0_2 : l0_2.length ≤ c0_2) (hr1_2 : Kd.C k62 w A1_2 l1_2.length l1_2) (hc1_2 : l1_2.length ≤ c1_2) (h : laws_eqToken.f k a0_0 a0_1 l0_2 a0_3 a0_4 a1_0 a1_1 l1_2 a1_3 a1_4 = some r) :
    Calls Tryd.prog 22 #[.agg #[.int .i64 a0_0, .string a0_1, .slice A0_2 l0_2.length c0_2, .string a0_3, .bool a0_4], .agg #[.int .i64 a1_0, .string a1_1, .slice A1_2 l1_2.length c1_2, .string a1_3, .bool a1_4]] w fun e w' => e = .returned (.bool r) ∧ Below w.heap.size w w' := by
  have hu36 := Tryd.underlying36
  have HR0_2 := am hr0_2
  have HC0_2 := am hc0_2
  clear hr0_2 hc0_2
  have HR1_2 := am hr1_2
  have HC1_2 := am hc1_2
  clear hr1_2 hc1_2
  have HB := am (Below.refl w.heap.size w)
  have H := h
  clear h
  unfold laws_eqToken.f at H
  by_cases c3 : a0_0 = a1_0
  · rw [if_pos c3] at H
    have c3b0 : (a0_0 == a1_0) = true := beq_iff_eq.mpr c3
    have c3b1 : (a0_0 != a1_0) = false := bne_eq_false_iff_eq.mpr c3
    clear c3
    by_cases c4 : a0_1.toList = a1_1.toList
    · rw [if_pos c4] at H
      have c4b0 : (a0_1.toList == a1_1.toList) = true := beq_iff_eq.mpr c4
      have c4b1 : (a0_1.toList != a1_1.toList) = false := bne_eq_false_iff_eq.mpr c4
      clear c4
      obtain ⟨t361, A5, H⟩ := bnd H
      obtain rfl | rfl := boo t361
      · rw [if_pos rfl] at H
        by_cases c7 : a0_3.toList = a1_3.toList
        · rw [if_pos c7] at H
          have c7b0 : (a0_3.toList == a1_3.toList) = true := beq_iff_eq.mpr c7
          have c7b1 : (a0_3.toList != a1_3.toList) = false := bne_eq_false_iff_eq.mpr c7
          clear c7
          by_cases c8 : (a0_4 != a1_4) = true
          · rw [if_pos c8] at H
            have c8b0 : (a0_4 != a1_4) = true := c8
            (try (have c8b1 : decide (a0_4 = a1_4) = false := by simpa using c8))
            (try (have c8b2 : (a0_4 == a1_4) = false := by simpa using c8))
            (try (have c8b3 : ¬ (a0_4 = a1_4) := by simpa using c8))
            clear c8
            obtain rfl := Option.some.inj H
            go_enter Tryd.func22, Tryd.ntmps22
            go_wp2_with (first | ((with_reducible refine gate_dst (N := 2) rfl ?_); refine box_event ?hg (N := 2) ?hd (cs := #[.int .i64 a0_0, .string a0_1, .slice A0_2 l0_2.length c0_2, .string a0_3, .bool a0_4]) (t := 36) ?hr ?_; (case hd => rfl); (case hg => rfl); (case hr => (go_simp; done)); intro gb359 hg w9 hbox hb; have n0_ := am (below_step HB.out hb); have n1_ := am hbox; have n2_ := am ((by rw [hg]; exact (below_size HB.out) : w.heap.size ≤ gb359)); have n3_ := am ((by rw [hg]; exact (below_size HB.out) : w.heap.size ≤ gb359)); clear HB; have HB := n0_; have BK359 := n1_; have GW359 := n2_; have GE359 := n3_; clear n0_ n1_ n2_ n3_; clear hb hbox hg) | ((with_reducible refine gate_dst (N := 3) rfl ?_); refine box_event ?hg (N := 3) ?hd (cs := #[.int .i64 a1_0, .string a1_1, .slice A1_2 l1_2.length c1_2, .string a1_3, .bool a1_4]) (t := 36) ?hr ?_; (case hd => rfl); (case hg => rfl); (case hr => (go_simp; done)); intro gb360 hg w10 hbox hb; have n0_ := am (blk_below (g := gb359) (o := .cells #[.int .i64 a0_0, .string a0_1, .slice A0_2 l0_2.length c0_2, .string a0_3, .bool a0_4] 36 (0, 0)) BK359.out hb); have n1_ := am (below_step HB.out hb); have n2_ := am hbox; have n3_ := am ((by rw [hg]; exact (below_size HB.out) : w.heap.size ≤ gb360)); have n4_ := am ((by rw [hg]; exact (below_size HB.out) : w.heap.size ≤ gb360)); have n5_ := am ((by rw [hg]; exact Nat.ne_of_lt (blk_lt (g := gb359) (o := .cells #[.int .i64 a0_0, .string a0_1, .slice A0_2 l0_2.length c0_2, .string a0_3, .bool a0_4] 36 (0, 0)) BK359.out) : gb359 ≠ gb360)); have n6_ := am ((by rw [hg]; exact Nat.ne_of_gt (blk_lt (g := gb359) (o := .cells #[.int .i64 a0_0, .string a0_1, .slice A0_2 l0_2.length c0_2, .string a0_3, .bool a0_4] 36 (0, 0)) BK359.out) : gb360 ≠ gb359)); clear BK359; clear HB; have BK359 := n0_; have HB := n1_; have BK360 := n2_; have GW360 := n3_; have GE360 := n4_; have NB359_360 := n5_; have NB360_359 := n6_; clear n0_ n1_ n2_ n3_ n4_ n5_ n6_; clear hb hbox hg; have hnb11 := NB359_360.out; have hnc11 := NB360_359.out; have hcz12_0 : w10.cell? ⟨gb359, 0, none⟩ = some (.int .i64 a0_0) := (blk_cell BK359.out 0).trans rfl; have hcz12_1 : w10.cell? ⟨gb359, 1, none⟩ = some (.string a0_1) := (blk_cell BK359.out 1).trans rfl; have hcz12_2 : w10.cell? ⟨gb359, 2, none⟩ = some (.slice A0_2 l0_2.length c0_2) := (blk_cell BK359.out 2).trans rfl; have hcz12_3 : w10.cell? ⟨gb359, 3, none⟩ = some (.string a0_3) := (blk_cell BK359.out 3).trans rfl; have hcz12_4 : w10.cell? ⟨gb359, 4, none⟩ = some (.bool a0_4) := (blk_cell BK359.out 4).trans rfl; have hfz12_0 := blk_frozen BK359.out 0; have hfz12_1 := blk_frozen BK359.out 1; have hfz12_2 := blk_frozen BK359.out 2; have hfz12_3 := blk_frozen BK359.out 3; have hfz12_4 := blk_frozen BK359.out 4; have hcz13_0 : w10.cell? ⟨gb360, 0, none⟩ = some (.int .i64 a1_0) := (blk_cell BK360.out 0).trans rfl; have hcz13_1 : w10.cell? ⟨gb360, 1, none⟩ = some (.string a1_1) := (blk_cell BK360.out 1).trans rfl; have hcz13_2 : w10.cell? ⟨gb360, 2, none⟩ = some (.slice A1_2 l1_2.length c1_2) := (blk_cell BK360.out 2).trans rfl; have hcz13_3 : w10.cell? ⟨gb360, 3, none⟩ = some (.string a1_3) := (blk_cell BK360.out 3).trans rfl; have hcz13_4 : w10.cell? ⟨gb360, 4, none⟩ = some (.bool a1_4) := (blk_cell BK360.out 4).trans rfl; have hfz13_0 := blk_frozen BK360.out 0; have hfz13_1 := blk_frozen BK360.out 1; have hfz13_2 := blk_frozen BK360.out 2; have hfz13_3 := blk_frozen BK360.out 3; have hfz13_4 := blk_frozen BK360.out 4) | ((with_reducible refine gate_callee (f := 52) rfl ?_); refine goesL_ (some 19) rfl rfl Tryd.func52 (by kernel_rfl) rfl #[.slice A0_2 l0_2.length c0_2, .slice A1_2 l1_2.length c1_2] rfl (by simp only [List.map_toArray, List.map_cons, List.map_nil]; rfl) ?_; (with_reducible refine (laws_eqAttrS.calls k _ _ l0_2 _ _ l1_2 true _ ?side1 ?side2 ?side3 ?side4 A5.out).mono ?_); (case side1 => repeat (exact (Kd.C_below HR0_2.out HB.out))); (case side2 => exact HC0_2.out); (case side3 => repeat (exact (Kd.C_below HR1_2.out HB.out))); (case side4 => exact HC1_2.out); rintro e w14 ⟨rfl, hb⟩; refine ⟨_, rfl, ?_⟩; replace BK359 := am (blk_below (g := gb359) (o := .cells #[.int .i64 a0_0, .string a0_1, .slice A0_2 l0_2.length c0_2, .string a0_3, .bool a0_4] 36 (0, 0)) BK359.out hb); replace BK360 := am (blk_below (g := gb360) (o := .cells #[.int .i64 a1_0, .string a1_1, .slice A1_2 l1_2.length c1_2, .string a1_3, .bool a1_4] 36 (0, 0)) BK360.out hb); replace HB := am (below_step HB.out hb); (try clear hb); have hcz15_0 : w14.cell? ⟨gb359, 0, none⟩ = some (.int .i64 a0_0) := (blk_cell BK359.out 0).trans rfl; have hcz15_1 : w14.cell? ⟨gb359, 1, none⟩ = some (.string a0_1) := (blk_cell BK359.out 1).trans rfl; have hcz15_2 : w14.cell? ⟨gb359, 2, none⟩ = some (.slice A0_2 l0_2.length c0_2) := (blk_cell BK359.out 2).trans rfl; have hcz15_3 : w14.cell? ⟨gb359, 3, none⟩ = some (.string a0_3) := (blk_cell BK359.out 3).trans rfl; have hcz15_4 : w14.cell? ⟨gb359, 4, none⟩ = some (.bool a0_4) := (blk_cell BK359.out 4).trans rfl; have hfz15_0 := blk_frozen BK359.out 0; have hfz15_1 := blk_frozen BK359.out 1; have hfz15_2 := blk_frozen BK359.out 2; have hfz15_3 := blk_frozen BK359.out 3; have hfz15_4 := blk_frozen BK359.out 4; have hcz16_0 : w14.cell? ⟨gb360, 0, none⟩ = some (.int .i64 a1_0) := (blk_cell BK360.out 0).trans rfl; have hcz16_1 : w14.cell? ⟨gb360, 1, none⟩ = some (.string a1_1) := (blk_cell BK360.out 1).trans rfl; have hcz16_2 : w14.cell? ⟨gb360, 2, none⟩ = some (.slice A1_2 l1_2.length c1_2) := (blk_cell BK360.out 2).trans rfl; have hcz16_3 : w14.cell? ⟨gb360, 3, none⟩ = some (.string a1_3) := (blk_cell BK360.out 3).trans rfl; have hcz16_4 : w14.cell? ⟨gb360, 4, none⟩ = some (.bool a1_4) := (blk_cell BK360.out 4).trans rfl; have hfz16_0 := blk_frozen BK360.out 0; have hfz16_1 := blk_frozen BK360.out 1; have hfz16_2 := blk_frozen BK360.out 2; have hfz16_3 := blk_frozen BK360.out 3; have hfz16_4 := blk_frozen BK360.out 4))
            go_ret
            exact ⟨rfl, by exact HB.out⟩
          · rw [if_neg c8] at H
            have c8b0 : (a0_4 != a1_4) = false := by simpa using c8
            (try (have c8b1 : decide (a0_4 = a1_4) = true := by simpa using c8))
            (try (have c8b2 : (a0_4 == a1_4) = true := by simpa using c8))
            clear c8
            obtain rfl := Option.some.inj H
            go_enter Tryd.func22, Tryd.ntmps22
            go_wp2_with (first | ((with_reducible refine gate_dst (N := 2) rfl ?_); refine box_event ?hg (N := 2) ?hd (cs := #[.int .i64 a0_0, .string a0_1, .slice A0_2 l0_2.length c0_2, .string a0_3, .bool a0_4]) (t := 36) ?hr ?_; (case hd => rfl); (case hg => rfl); (case hr => (go_simp; done)); intro gb359 hg w17 hbox hb; have n0_ := am (below_step HB.out hb); have n1_ := am hbox; have n2_ := am ((by rw [hg]; exact (below_size HB.out) : w.heap.size ≤ gb359)); have n3_ := am ((by rw [hg]; exact (below_size HB.out) : w.heap.size ≤ gb359)); clear HB; have HB := n0_; have BK359 := n1_; have GW359 := n2_; have GE359 := n3_; clear n0_ n1_ n2_ n3_; clear hb hbox hg) | ((with_reducible refine gate_dst (N := 3) rfl ?_); refine box_event ?hg (N := 3) ?hd (cs := #[.int .i64 a1_0, .string a1_1, .slice A1_2 l1_2.length c1_2, .string a1_3, .bool a1_4]) (t := 36) ?hr ?_; (case hd => rfl); (case hg => rfl); (case hr => (go_simp; done)); intro gb360 hg w18 hbox hb; have n0_ := am (blk_below (g := gb359) (o := .cells #[.int .i64 a0_0, .string a0_1, .slice A0_2 l0_2.length c0_2, .string a0_3, .bool a0_4] 36 (0, 0)) BK359.out hb); have n1_ := am (below_step HB.out hb); have n2_ := am hbox; have n3_ := am ((by rw [hg]; exact (below_size HB.out) : w.heap.size ≤ gb360)); have n4_ := am ((by rw [hg]; exact (below_size HB.out) : w.heap.size ≤ gb360)); have n5_ := am ((by rw [hg]; exact Nat.ne_of_lt (blk_lt (g := gb359) (o := .cells #[.int .i64 a0_0, .string a0_1, .slice A0_2 l0_2.length c0_2, .string a0_3, .bool a0_4] 36 (0, 0)) BK359.out) : gb359 ≠ gb360)); have n6_ := am ((by rw [hg]; exact Nat.ne_of_gt (blk_lt (g := gb359) (o := .cells #[.int .i64 a0_0, .string a0_1, .slice A0_2 l0_2.length c0_2, .string a0_3, .bool a0_4] 36 (0, 0)) BK359.out) : gb360 ≠ gb359)); clear BK359; clear HB; have BK359 := n0_; have HB := n1_; have BK360 := n2_; have GW360 := n3_; have GE360 := n4_; have NB359_360 := n5_; have NB360_359 := n6_; clear n0_ n1_ n2_ n3_ n4_ n5_ n6_; clear hb hbox hg; have hnb19 := NB359_360.out; have hnc19 := NB360_359.out; have hcz20_0 : w18.cell? ⟨gb359, 0, none⟩ = some (.int .i64 a0_0) := (blk_cell BK359.out 0).trans rfl; have hcz20_1 : w18.cell? ⟨gb359, 1, none⟩ = some (.string a0_1) := (blk_cell BK359.out 1).trans rfl; have hcz20_2 : w18.cell? ⟨gb359, 2, none⟩ = some (.slice A0_2 l0_2.length c0_2) := (blk_cell BK359.out 2).trans rfl; have hcz20_3 : w18.cell? ⟨gb359, 3, none⟩ = some (.string a0_3) := (blk_cell BK359.out 3).trans rfl; have hcz20_4 : w18.cell? ⟨gb359, 4, none⟩ = some (.bool a0_4) := (blk_cell BK359.out 4).trans rfl; have hfz20_0 := blk_frozen BK359.out 0; have hfz20_1 := blk_frozen BK359.out 1; have hfz20_2 := blk_frozen BK359.out 2; have hfz20_3 := blk_frozen BK359.out 3; have hfz20_4 := blk_frozen BK359.out 4; have hcz21_0 : w18.cell? ⟨gb360, 0, none⟩ = some (.int .i64 a1_0) := (blk_cell BK360.out 0).trans rfl; have hcz21_1 : w18.cell? ⟨gb360, 1, none⟩ = some (.string a1_1) := (blk_cell BK360.out 1).trans rfl; have hcz21_2 : w18.cell? ⟨gb360, 2, none⟩ = some (.slice A1_2 l1_2.length c1_2) := (blk_cell BK360.out 2).trans rfl; have hcz21_3 : w18.cell? ⟨gb360, 3, none⟩ = some (.string a1_3) := (blk_cell BK360.out 3).trans rfl; have hcz21_4 : w18.cell? ⟨gb360, 4, none⟩ = some (.bool a1_4) := (blk_cell BK360.out 4).trans rfl; have hfz21_0 := blk_frozen BK360.out 0; have hfz21_1 := blk_frozen BK360.out 1; have hfz21_2 := blk_frozen BK360.out 2; have hfz21_3 := blk_frozen BK360.out 3; have hfz21_4 := blk_frozen BK360.out 4) | ((with_reducible refine gate_callee (f := 52) rfl ?_); refine goesL_ (some 19) rfl rfl Tryd.func52 (by kernel_rfl) rfl #[.slice A0_2 l0_2.length c0_2, .slice A1_2 l1_2.length c1_2] rfl (by simp only [List.map_toArray, List.map_cons, List.map_nil]; rfl) ?_; (with_reducible refine (laws_eqAttrS.calls k _ _ l0_2 _ _ l1_2 true _ ?side1 ?side2 ?side3 ?side4 A5.out).mono ?_); (case side1 => repeat (exact (Kd.C_below HR0_2.out HB.out))); (case side2 => exact HC0_2.out); (case side3 => repeat (exact (Kd.C_below HR1_2.out HB.out))); (case side4 => exact HC1_2.out); rintro e w22 ⟨rfl, hb⟩; refine ⟨_, rfl, ?_⟩; replace BK359 := am (blk_below (g := gb359) (o := .cells #[.int .i64 a0_0, .string a0_1, .slice A0_2 l0_2.length c0_2, .string a0_3, .bool a0_4] 36 (0, 0)) BK359.out hb); replace BK360 := am (blk_below (g := gb360) (o := .cells #[.int .i64 a1_0, .string a1_1, .slice A1_2 l1_2.length c1_2, .string a1_3, .bool a1_4] 36 (0, 0)) BK360.out hb); replace HB := am (below_step HB.out hb); (try clear hb); have hcz23_0 : w22.cell? ⟨gb359, 0, none⟩ = some (.int .i64 a0_0) := (blk_cell BK359.out 0).trans rfl; have hcz23_1 : w22.cell? ⟨gb359, 1, none⟩ = some (.string a0_1) := (blk_cell BK359.out 1).trans rfl; have hcz23_2 : w22.cell? ⟨gb359, 2, none⟩ = some (.slice A0_2 l0_2.length c0_2) := (blk_cell BK359.out 2).trans rfl; have hcz23_3 : w22.cell? ⟨gb359, 3, none⟩ = some (.string a0_3) := (blk_cell BK359.out 3).trans rfl; have hcz23_4 : w22.cell? ⟨gb359, 4, none⟩ = some (.bool a0_4) := (blk_cell BK359.out 4).trans rfl; have hfz23_0 := blk_frozen BK359.out 0; have hfz23_1 := blk_frozen BK359.out 1; have hfz23_2 := blk_frozen BK359.out 2; have hfz23_3 := blk_frozen BK359.out 3; have hfz23_4 := blk_frozen BK359.out 4; have hcz24_0 : w22.cell? ⟨gb360, 0, none⟩ = some (.int .i64 a1_0) := (blk_cell BK360.out 0).trans rfl; have hcz24_1 : w22.cell? ⟨gb360, 1, none⟩ = some (.string a1_1) := (blk_cell BK360.out 1).trans rfl; have hcz24_2 : w22.cell? ⟨gb360, 2, none⟩ = some (.slice A1_2 l1_2.length c1_2) := (blk_cell BK360.out 2).trans rfl; have hcz24_3 : w22.cell? ⟨gb360, 3, none⟩ = some (.string a1_3) := (blk_cell BK360.out 3).trans rfl; have hcz24_4 : w22.cell? ⟨gb360, 4, none⟩ = some (.bool a1_4) := (blk_cell BK360.out 4).trans rfl; have hfz24_0 := blk_frozen BK360.out 0; have hfz24_1 := blk_frozen BK360.out 1; have hfz24_2 := blk_frozen BK360.out 2; have hfz24_3 := blk_frozen BK360.out 3; have hfz24_4 := blk_frozen BK360.out 4))
            go_ret
            exact ⟨rfl, by exact HB.out⟩
        · rw [if_neg c7] at H
          have c7b0 : (a0_3.toList == a1_3.toList) = false := beq_eq_false_iff_ne.mpr c7
          have c7b1 : (a0_3.toList != a1_3.toList) = true := bne_iff_ne.mpr c7
          obtain rfl := Option.some.inj H
          go_enter Tryd.func22, Tryd.ntmps22
          go_wp2_with (first | ((with_reducible refine gate_dst (N := 2) rfl ?_); refine box_event ?hg (N := 2) ?hd (cs := #[.int .i64 a0_0, .string a0_1, .slice A0_2 l0_2.length c0_2, .string a0_3, .bool a0_4]) (t := 36) ?hr ?_; (case hd => rfl); (case hg => rfl); (case hr => (go_simp; done)); intro gb359 hg w25 hbox hb; have n0_ := am (below_step HB.out hb); have n1_ := am hbox; have n2_ := am ((by rw [hg]; exact (below_size HB.out) : w.heap.size ≤ gb359)); have n3_ := am ((by rw [hg]; exact (below_size HB.out) : w.heap.size ≤ gb359)); clear HB; have HB := n0_; have BK359 := n1_; have GW359 := n2_; have GE359 := n3_; clear n0_ n1_ n2_ n3_; clear hb hbox hg) | ((with_reducible refine gate_dst (N := 3) rfl ?_); refine box_event ?hg (N := 3) ?hd (cs := #[.int .i64 a1_0, .string a1_1, .slice A1_2 l1_2.length c1_2, .string a1_3, .bool a1_4]) (t := 36) ?hr ?_; (case hd => rfl); (case hg => rfl); (case hr => (go_simp; done)); intro gb360 hg w26 hbox hb; have n0_ := am (blk_below (g := gb359) (o := .cells #[.int .i64 a0_0, .string a0_1, .slice A0_2 l0_2.length c0_2, .string a0_3, .bool a0_4] 36 (0, 0)) BK359.out hb); have n1_ := am (below_step HB.out hb); have n2_ := am hbox; have n3_ := am ((by rw [hg]; exact (below_size HB.out) : w.heap.size ≤ gb360)); have n4_ := am ((by rw [hg]; exact (below_size HB.out) : w.heap.size ≤ gb360)); have n5_ := am ((by rw [hg]; exact Nat.ne_of_lt (blk_lt (g := gb359) (o := .cells #[.int .i64 a0_0, .string a0_1, .slice A0_2 l0_2.length c0_2, .string a0_3, .bool a0_4] 36 (0, 0)) BK359.out) : gb359 ≠ gb360)); have n6_ := am ((by rw [hg]; exact Nat.ne_of_gt (blk_lt (g := gb359) (o := .cells #[.int .i64 a0_0, .string a0_1, .slice A0_2 l0_2.length c0_2, .string a0_3, .bool a0_4] 36 (0, 0)) BK359.out) : gb360 ≠ gb359)); clear BK359; clear HB; have BK359 := n0_; have HB := n1_; have BK360 := n2_; have GW360 := n3_; have GE360 := n4_; have NB359_360 := n5_; have NB360_359 := n6_; clear n0_ n1_ n2_ n3_ n4_ n5_ n6_; clear hb hbox hg; have hnb27 := NB359_360.out; have hnc27 := NB360_359.out; have hcz28_0 : w26.cell? ⟨gb359, 0, none⟩ = some (.int .i64 a0_0) := (blk_cell BK359.out 0).trans rfl; have hcz28_1 : w26.cell? ⟨gb359, 1, none⟩ = some (.string a0_1) := (blk_cell BK359.out 1).trans rfl; have hcz28_2 : w26.cell? ⟨gb359, 2, none⟩ = some (.slice A0_2 l0_2.length c0_2) := (blk_cell BK359.out 2).trans rfl; have hcz28_3 : w26.cell? ⟨gb359, 3, none⟩ = some (.string a0_3) := (blk_cell BK359.out 3).trans rfl; have hcz28_4 : w26.cell? ⟨gb359, 4, none⟩ = some (.bool a0_4) := (blk_cell BK359.out 4).trans rfl; have hfz28_0 := blk_frozen BK359.out 0; have hfz28_1 := blk_frozen BK359.out 1; have hfz28_2 := blk_frozen BK359.out 2; have hfz28_3 := blk_frozen BK359.out 3; have hfz28_4 := blk_frozen BK359.out 4; have hcz29_0 : w26.cell? ⟨gb360, 0, none⟩ = some (.int .i64 a1_0) := (blk_cell BK360.out 0).trans rfl; have hcz29_1 : w26.cell? ⟨gb360, 1, none⟩ = some (.string a1_1) := (blk_cell BK360.out 1).trans rfl; have hcz29_2 : w26.cell? ⟨gb360, 2, none⟩ = some (.slice A1_2 l1_2.length c1_2) := (blk_cell BK360.out 2).trans rfl; have hcz29_3 : w26.cell? ⟨gb360, 3, none⟩ = some (.string a1_3) := (blk_cell BK360.out 3).trans rfl; have hcz29_4 : w26.cell? ⟨gb360, 4, none⟩ = some (.bool a1_4) := (blk_cell BK360.out 4).trans rfl; have hfz29_0 := blk_frozen BK360.out 0; have hfz29_1 := blk_frozen BK360.out 1; have hfz29_2 := blk_frozen BK360.out 2; have hfz29_3 := blk_frozen BK360.out 3; have hfz29_4 := blk_frozen BK360.out 4) | ((with_reducible refine gate_callee (f := 52) rfl ?_); refine goesL_ (some 19) rfl rfl Tryd.func52 (by kernel_rfl) rfl #[.slice A0_2 l0_2.length c0_2, .slice A1_2 l1_2.length c1_2] rfl (by simp only [List.map_toArray, List.map_cons, List.map_nil]; rfl) ?_; (with_reducible refine (laws_eqAttrS.calls k _ _ l0_2 _ _ l1_2 true _ ?side1 ?side2 ?side3 ?side4 A5.out).mono ?_); (case side1 => repeat (exact (Kd.C_below HR0_2.out HB.out))); (case side2 => exact HC0_2.out); (case side3 => repeat (exact (Kd.C_below HR1_2.out HB.out))); (case side4 => exact HC1_2.out); rintro e w30 ⟨rfl, hb⟩; refine ⟨_, rfl, ?_⟩; replace BK359 := am (blk_below (g := gb359) (o := .cells #[.int .i64 a0_0, .string a0_1, .slice A0_2 l0_2.length c0_2, .string a0_3, .bool a0_4] 36 (0, 0)) BK359.out hb); replace BK360 := am (blk_below (g := gb360) (o := .cells #[.int .i64 a1_0, .string a1_1, .slice A1_2 l1_2.length c1_2, .string a1_3, .bool a1_4] 36 (0, 0)) BK360.out hb); replace HB := am (below_step HB.out hb); (try clear hb); have hcz31_0 : w30.cell? ⟨gb359, 0, none⟩ = some (.int .i64 a0_0) := (blk_cell BK359.out 0).trans rfl; have hcz31_1 : w30.cell? ⟨gb359, 1, none⟩ = some (.string a0_1) := (blk_cell BK359.out 1).trans rfl; have hcz31_2 : w30.cell? ⟨gb359, 2, none⟩ = some (.slice A0_2 l0_2.length c0_2) := (blk_cell BK359.out 2).trans rfl; have hcz31_3 : w30.cell? ⟨gb359, 3, none⟩ = some (.string a0_3) := (blk_cell BK359.out 3).trans rfl; have hcz31_4 : w30.cell? ⟨gb359, 4, none⟩ = some (.bool a0_4) := (blk_cell BK359.out 4).trans rfl; have hfz31_0 := blk_frozen BK359.out 0; have hfz31_1 := blk_frozen BK359.out 1; have hfz31_2 := blk_frozen BK359.out 2; have hfz31_3 := blk_frozen BK359.out 3; have hfz31_4 := blk_frozen BK359.out 4; have hcz32_0 : w30.cell? ⟨gb360, 0, none⟩ = some (.int .i64 a1_0) := (blk_cell BK360.out 0).trans rfl; have hcz32_1 : w30.cell? ⟨gb360, 1, none⟩ = some (.string a1_1) := (blk_cell BK360.out 1).trans rfl; have hcz32_2 : w30.cell? ⟨gb360, 2, none⟩ = some (.slice A1_2 l1_2.length c1_2) := (blk_cell BK360.out 2).trans rfl; have hcz32_3 : w30.cell? ⟨gb360, 3, none⟩ = some (.string a1_3) := (blk_cell BK360.out 3).trans rfl; have hcz32_4 : w30.cell? ⟨gb360, 4, none⟩ = some (.bool a1_4) := (blk_cell BK360.out 4).trans rfl; have hfz32_0 := blk_frozen BK360.out 0; have hfz32_1 := blk_frozen BK360.out 1; have hfz32_2 := blk_frozen BK360.out 2; have hfz32_3 := blk_frozen BK360.out 3; have hfz32_4 := blk_frozen BK360.out 4))
          go_ret
          exact ⟨rfl, by exact HB.out⟩
      · rw [if_neg nft] at H
        obtain rfl := Option.some.inj H
        go_enter Tryd.func22, Tryd.ntmps22
        go_wp2_with (first | ((with_reducible refine gate_dst (N := 2) rfl ?_); refine box_event ?hg (N := 2) ?hd (cs := #[.int .i64 a0_0, .string a0_1, .slice A0_2 l0_2.length c0_2, .string a0_3, .bool a0_4]) (t := 36) ?hr ?_; (case hd => rfl); (case hg => rfl); (case hr => (go_simp; done)); intro gb359 hg w33 hbox hb; have n0_ := am (below_step HB.out hb); have n1_ := am hbox; have n2_ := am ((by rw [hg]; exact (below_size HB.out) : w.heap.size ≤ gb359)); have n3_ := am ((by rw [hg]; exact (below_size HB.out) : w.heap.size ≤ gb359)); clear HB; have HB := n0_; have BK359 := n1_; have GW359 := n2_; have GE359 := n3_; clear n0_ n1_ n2_ n3_; clear hb hbox hg) | ((with_reducible refine gate_dst (N := 3) rfl ?_); refine box_event ?hg (N := 3) ?hd (cs := #[.int .i64 a1_0, .string a1_1, .slice A1_2 l1_2.length c1_2, .string a1_3, .bool a1_4]) (t := 36) ?hr ?_; (case hd => rfl); (case hg => rfl); (case hr => (go_simp; done)); intro gb360 hg w34 hbox hb; have n0_ := am (blk_below (g := gb359) (o := .cells #[.int .i64 a0_0, .string a0_1, .slice A0_2 l0_2.length c0_2, .string a0_3, .bool a0_4] 36 (0, 0)) BK359.out hb); have n1_ := am (below_step HB.out hb); have n2_ := am hbox; have n3_ := am ((by rw [hg]; exact (below_size HB.out) : w.heap.size ≤ gb360)); have n4_ := am ((by rw [hg]; exact (below_size HB.out) : w.heap.size ≤ gb360)); have n5_ := am ((by rw [hg]; exact Nat.ne_of_lt (blk_lt (g := gb359) (o := .cells #[.int .i64 a0_0, .string a0_1, .slice A0_2 l0_2.length c0_2, .string a0_3, .bool a0_4] 36 (0, 0)) BK359.out) : gb359 ≠ gb360)); have n6_ := am ((by rw [hg]; exact Nat.ne_of_gt (blk_lt (g := gb359) (o := .cells #[.int .i64 a0_0, .string a0_1, .slice A0_2 l0_2.length c0_2, .string a0_3, .bool a0_4] 36 (0, 0)) BK359.out) : gb360 ≠ gb359)); clear BK359; clear HB; have BK359 := n0_; have HB := n1_; have BK360 := n2_; have GW360 := n3_; have GE360 := n4_; have NB359_360 := n5_; have NB360_359 := n6_; clear n0_ n1_ n2_ n3_ n4_ n5_ n6_; clear hb hbox hg; have hnb35 := NB359_360.out; have hnc35 := NB360_359.out; have hcz36_0 : w34.cell? ⟨gb359, 0, none⟩ = some (.int .i64 a0_0) := (blk_cell BK359.out 0).trans rfl; have hcz36_1 : w34.cell? ⟨gb359, 1, none⟩ = some (.string a0_1) := (blk_cell BK359.out 1).trans rfl; have hcz36_2 : w34.cell? ⟨gb359, 2, none⟩ = some (.slice A0_2 l0_2.length c0_2) := (blk_cell BK359.out 2).trans rfl; have hcz36_3 : w34.cell? ⟨gb359, 3, none⟩ = some (.string a0_3) := (blk_cell BK359.out 3).trans rfl; have hcz36_4 : w34.cell? ⟨gb359, 4, none⟩ = some (.bool a0_4) := (blk_cell BK359.out 4).trans rfl; have hfz36_0 := blk_frozen BK359.out 0; have hfz36_1 := blk_frozen BK359.out 1; have hfz36_2 := blk_frozen BK359.out 2; have hfz36_3 := blk_frozen BK359.out 3; have hfz36_4 := blk_frozen BK359.out 4; have hcz37_0 : w34.cell? ⟨gb360, 0, none⟩ = some (.int .i64 a1_0) := (blk_cell BK360.out 0).trans rfl; have hcz37_1 : w34.cell? ⟨gb360, 1, none⟩ = some (.string a1_1) := (blk_cell BK360.out 1).trans rfl; have hcz37_2 : w34.cell? ⟨gb360, 2, none⟩ = some (.slice A1_2 l1_2.length c1_2) := (blk_cell BK360.out 2).trans rfl; have hcz37_3 : w34.cell? ⟨gb360, 3, none⟩ = some (.string a1_3) := (blk_cell BK360.out 3).trans rfl; have hcz37_4 : w34.cell? ⟨gb360, 4, none⟩ = some (.bool a1_4) := (blk_cell BK360.out 4).trans rfl; have hfz37_0 := blk_frozen BK360.out 0; have hfz37_1 := blk_frozen BK360.out 1; have hfz37_2 := blk_frozen BK360.out 2; have hfz37_3 := blk_frozen BK360.out 3; have hfz37_4 := blk_frozen BK360.out 4) | ((with_reducible refine gate_callee (f := 52) rfl ?_); refine goesL_ (some 19) rfl rfl Tryd.func52 (by kernel_rfl) rfl #[.slice A0_2 l0_2.length c0_2, .slice A1_2 l1_2.length c1_2] rfl (by simp only [List.map_toArray, List.map_cons, List.map_nil]; rfl) ?_; (with_reducible refine (laws_eqAttrS.calls k _ _ l0_2 _ _ l1_2 false _ ?side1 ?side2 ?side3 ?side4 A5.out).mono ?_); (case side1 => repeat (exact (Kd.C_below HR0_2.out HB.out))); (case side2 => exact HC0_2.out); (case side3 => repeat (exact (Kd.C_below HR1_2.out HB.out))); (case side4 => exact HC1_2.out); rintro e w38 ⟨rfl, hb⟩; refine ⟨_, rfl, ?_⟩; replace BK359 := am (blk_below (g := gb359) (o := .cells #[.int .i64 a0_0, .string a0_1, .slice A0_2 l0_2.length c0_2, .string a0_3, .bool a0_4] 36 (0, 0)) BK359.out hb); replace BK360 := am (blk_below (g := gb360) (o := .cells #[.int .i64 a1_0, .string a1_1, .slice A1_2 l1_2.length c1_2, .string a1_3, .bool a1_4] 36 (0, 0)) BK360.out hb); replace HB := am (below_step HB.out hb); (try clear hb)))
        go_ret
        exact ⟨rfl, by exact HB.out⟩
    · rw [if_neg c4] at H
      have c4b0 : (a0_1.toList == a1_1.toList) = false := beq_eq_false_iff_ne.mpr c4
      have c4b1 : (a0_1.toList != a1_1.toList) = true := bne_iff_ne.mpr c4
      obtain rfl := Option.some.inj H
      go_enter Tryd.func22, Tryd.ntmps22
      go_wp2_with (first | ((with_reducible refine gate_dst (N := 2) rfl ?_); refine box_event ?hg (N := 2) ?hd (cs := #[.int .i64 a0_0, .string a0_1, .slice A0_2 l0_2.length c0_2, .string a0_3, .bool a0_4]) (t := 36) ?hr ?_; (case hd => rfl); (case hg => rfl); (case hr => (go_simp; done)); intro gb359 hg w39 hbox hb; have n0_ := am (below_step HB.out hb); have n1_ := am hbox; have n2_ := am ((by rw [hg]; exact (below_size HB.out) : w.heap.size ≤ gb359)); have n3_ := am ((by rw [hg]; exact (below_size HB.out) : w.heap.size ≤ gb359)); clear HB; have HB := n0_; have BK359 := n1_; have GW359 := n2_; have GE359 := n3_; clear n0_ n1_ n2_ n3_; clear hb hbox hg) | ((with_reducible refine gate_dst (N := 3) rfl ?_); refine box_event ?hg (N := 3) ?hd (cs := #[.int .i64 a1_0, .string a1_1, .slice A1_2 l1_2.length c1_2, .string a1_3, .bool a1_4]) (t := 36) ?hr ?_; (case hd => rfl); (case hg => rfl); (case hr => (go_simp; done)); intro gb360 hg w40 hbox hb; have n0_ := am (blk_below (g := gb359) (o := .cells #[.int .i64 a0_0, .string a0_1, .slice A0_2 l0_2.length c0_2, .string a0_3, .bool a0_4] 36 (0, 0)) BK359.out hb); have n1_ := am (below_step HB.out hb); have n2_ := am hbox; have n3_ := am ((by rw [hg]; exact (below_size HB.out) : w.heap.size ≤ gb360)); have n4_ := am ((by rw [hg]; exact (below_size HB.out) : w.heap.size ≤ gb360)); have n5_ := am ((by rw [hg]; exact Nat.ne_of_lt (blk_lt (g := gb359) (o := .cells #[.int .i64 a0_0, .string a0_1, .slice A0_2 l0_2.length c0_2, .string a0_3, .bool a0_4] 36 (0, 0)) BK359.out) : gb359 ≠ gb360)); have n6_ := am ((by rw [hg]; exact Nat.ne_of_gt (blk_lt (g := gb359) (o := .cells #[.int .i64 a0_0, .string a0_1, .slice A0_2 l0_2.length c0_2, .string a0_3, .bool a0_4] 36 (0, 0)) BK359.out) : gb360 ≠ gb359)); clear BK359; clear HB; have BK359 := n0_; have HB := n1_; have BK360 := n2_; have GW360 := n3_; have GE360 := n4_; have NB359_360 := n5_; have NB360_359 := n6_; clear n0_ n1_ n2_ n3_ n4_ n5_ n6_; clear hb hbox hg; have hnb41 := NB359_360.out; have hnc41 := NB360_359.out; have hcz42_0 : w40.cell? ⟨gb359, 0, none⟩ = some (.int .i64 a0_0) := (blk_cell BK359.out 0).trans rfl; have hcz42_1 : w40.cell? ⟨gb359, 1, none⟩ = some (.string a0_1) := (blk_cell BK359.out 1).trans rfl; have hcz42_2 : w40.cell? ⟨gb359, 2, none⟩ = some (.slice A0_2 l0_2.length c0_2) := (blk_cell BK359.out 2).trans rfl; have hcz42_3 : w40.cell? ⟨gb359, 3, none⟩ = some (.string a0_3) := (blk_cell BK359.out 3).trans rfl; have hcz42_4 : w40.cell? ⟨gb359, 4, none⟩ = some (.bool a0_4) := (blk_cell BK359.out 4).trans rfl; have hfz42_0 := blk_frozen BK359.out 0; have hfz42_1 := blk_frozen BK359.out 1; have hfz42_2 := blk_frozen BK359.out 2; have hfz42_3 := blk_frozen BK359.out 3; have hfz42_4 := blk_frozen BK359.out 4; have hcz43_0 : w40.cell? ⟨gb360, 0, none⟩ = some (.int .i64 a1_0) := (blk_cell BK360.out 0).trans rfl; have hcz43_1 : w40.cell? ⟨gb360, 1, none⟩ = some (.string a1_1) := (blk_cell BK360.out 1).trans rfl; have hcz43_2 : w40.cell? ⟨gb360, 2, none⟩ = some (.slice A1_2 l1_2.length c1_2) := (blk_cell BK360.out 2).trans rfl; have hcz43_3 : w40.cell? ⟨gb360, 3, none⟩ = some (.string a1_3) := (blk_cell BK360.out 3).trans rfl; have hcz43_4 : w40.cell? ⟨gb360, 4, none⟩ = some (.bool a1_4) := (blk_cell BK360.out 4).trans rfl; have hfz43_0 := blk_frozen BK360.out 0; have hfz43_1 := blk_frozen BK360.out 1; have hfz43_2 := blk_frozen BK360.out 2; have hfz43_3 := blk_frozen BK360.out 3; have hfz43_4 := blk_frozen BK360.out 4))
      go_ret
      exact ⟨rfl, by exact HB.out⟩
  · rw [if_neg c3] at H
    have c3b0 : (a0_0 == a1_0) = false := beq_eq_false_iff_ne.mpr c3
    have c3b1 : (a0_0 != a1_0) = true := bne_iff_ne.mpr c3
    obtain rfl := Option.some.inj H
    go_enter Tryd.func22, Tryd.ntmps22
    go_wp2_with (first | ((with_reducible refine gate_dst (N := 2) rfl ?_); refine box_event ?hg (N := 2) ?hd (cs := #[.int .i64 a0_0, .string a0_1, .slice A0_2 l0_2.length c0_2, .string a0_3, .bool a0_4]) (t := 36) ?hr ?_; (case hd => rfl); (case hg => rfl); (case hr => (go_simp; done)); intro gb359 hg w44 hbox hb; have n0_ := am (below_step HB.out hb); have n1_ := am hbox; have n2_ := am ((by rw [hg]; exact (below_size HB.out) : w.heap.size ≤ gb359)); have n3_ := am ((by rw [hg]; exact (below_size HB.out) : w.heap.size ≤ gb359)); clear HB; have HB := n0_; have BK359 := n1_; have GW359 := n2_; have GE359 := n3_; clear n0_ n1_ n2_ n3_; clear hb hbox hg) | ((with_reducible refine gate_dst (N := 3) rfl ?_); refine box_event ?hg (N := 3) ?hd (cs := #[.int .i64 a1_0, .string a1_1, .slice A1_2 l1_2.length c1_2, .string a1_3, .bool a1_4]) (t := 36) ?hr ?_; (case hd => rfl); (case hg => rfl); (case hr => (go_simp; done)); intro gb360 hg w45 hbox hb; have n0_ := am (blk_below (g := gb359) (o := .cells #[.int .i64 a0_0, .string a0_1, .slice A0_2 l0_2.length c0_2, .string a0_3, .bool a0_4] 36 (0, 0)) BK359.out hb); have n1_ := am (below_step HB.out hb); have n2_ := am hbox; have n3_ := am ((by rw [hg]; exact (below_size HB.out) : w.heap.size ≤ gb360)); have n4_ := am ((by rw [hg]; exact (below_size HB.out) : w.heap.size ≤ gb360)); have n5_ := am ((by rw [hg]; exact Nat.ne_of_lt (blk_lt (g := gb359) (o := .cells #[.int .i64 a0_0, .string a0_1, .slice A0_2 l0_2.length c0_2, .string a0_3, .bool a0_4] 36 (0, 0)) BK359.out) : gb359 ≠ gb360)); have n6_ := am ((by rw [hg]; exact Nat.ne_of_gt (blk_lt (g := gb359) (o := .cells #[.int .i64 a0_0, .string a0_1, .slice A0_2 l0_2.length c0_2, .string a0_3, .bool a0_4] 36 (0, 0)) BK359.out) : gb360 ≠ gb359)); clear BK359; clear HB; have BK359 := n0_; have HB := n1_; have BK360 := n2_; have GW360 := n3_; have GE360 := n4_; have NB359_360 := n5_; have NB360_359 := n6_; clear n0_ n1_ n2_ n3_ n4_ n5_ n6_; clear hb hbox hg; have hnb46 := NB359_360.out; have hnc46 := NB360_359.out; have hcz47_0 : w45.cell? ⟨gb359, 0, none⟩ = some (.int .i64 a0_0) := (blk_cell BK359.out 0).trans rfl; have hcz47_1 : w45.cell? ⟨gb359, 1, none⟩ = some (.string a0_1) := (blk_cell BK359.out 1).trans rfl; have hcz47_2 : w45.cell? ⟨gb359, 2, none⟩ = some (.slice A0_2 l0_2.length c0_2) := (blk_cell BK359.out 2).trans rfl; have hcz47_3 : w45.cell? ⟨gb359, 3, none⟩ = some (.string a0_3) := (blk_cell BK359.out 3).trans rfl; have hcz47_4 : w45.cell? ⟨gb359, 4, none⟩ = some (.bool a0_4) := (blk_cell BK359.out 4).trans rfl; have hfz47_0 := blk_frozen BK359.out 0; have hfz47_1 := blk_frozen BK359.out 1; have hfz47_2 := blk_frozen BK359.out 2; have hfz47_3 := blk_frozen BK359.out 3; have hfz47_4 := blk_frozen BK359.out 4; have hcz48_0 : w45.cell? ⟨gb360, 0, none⟩ = some (.int .i64 a1_0) := (blk_cell BK360.out 0).trans rfl; have hcz48_1 : w45.cell? ⟨gb360, 1, none⟩ = some (.string a1_1) := (blk_cell BK360.out 1).trans rfl; have hcz48_2 : w45.cell? ⟨gb360, 2, none⟩ = some (.slice A1_2 l1_2.length c1_2) := (blk_cell BK360.out 2).trans rfl; have hcz48_3 : w45.cell? ⟨gb360, 3, none⟩ = some (.string a1_3) := (blk_cell BK360.out 3).trans rfl; have hcz48_4 : w45.cell? ⟨gb360, 4, none⟩ = some (.bool a1_4) := (blk_cell BK360.out 4).trans rfl; have hfz48_0 := blk_frozen BK360.out 0; have hfz48_1 := blk_frozen BK360.out 1; have hfz48_2 := blk_frozen BK360.out 2; have hfz48_3 := blk_frozen BK360.out 3; have hfz48_4 := blk_frozen BK360.out 4))
    go_ret
    exact ⟨rfl, by exact HB.out⟩
def laws_eqTokenS.l0 : Nat → List (S36) → List (S36) → Int → Option (Bool)
  | 0, _, _, _ => none
  | k + 1, x0, x1, x5 => if x5 < (x0.length : Int) then (if 0 ≤ x5 then (if x5 < (x1.length : Int) then ((laws_eqToken.f k ((rd_T36 x0 x5).f0) ((rd_T36 x0 x5).f1) ((rd_T36 x0 x5).f2) ((rd_T36 x0 x5).f3) ((rd_T36 x0 x5).f4) ((rd_T36 x1 x5).f0) ((rd_T36 x1 x5).f1) ((rd_T36 x1 x5).f2) ((rd_T36 x1 x5).f3) ((rd_T36 x1 x5).f4)).bind fun t364 => (if t364 = true then (laws_eqTokenS.l0 k x0 x1 (wrap64 (x5 + 1))) else (some false))) else (none)) else (none)) else (some true)
def laws_eqTokenS.f (k : Nat) (l0 : List (S36)) (l1 : List (S36)) : Option (Bool) := if (l0.length : Int) = (l1.length : Int) then (laws_eqTokenS.l0 k l0 l1 0) else (some false)
theorem laws_eqTokenS.mono_l : ∀ k, (∀ y0 y1 y2, LeO (laws_eqTokenS.l0 k y0 y1 y2) (laws_eqTokenS.l0 (k + 1) y0 y1 y2))
  | 0 => fun _ _ _ r h => by simp [laws_eqTokenS.l0] at h
  | k + 1 => by
    have ih0 := laws_eqTokenS.mono_l k
    · intro y0 y1 y2
      unfold laws_eqTokenS.l0
      repeat' first
      | (with_reducible exact ih0 _ _ _)
      | (with_reducible exact laws_eqToken.mono _ _ _ _ _ _ _ _ _ _ _)
      | (with_reducible exact LeO.refl _)
      | (with_reducible exact LeO.none _)
      | (with_reducible refine LeO.ite ?_ ?_)
      | (with_reducible refine LeO.bind ?_ (fun _ => ?_))
      | exact ih0 _ _ _
      | exact laws_eqToken.mono _ _ _ _ _ _ _ _ _ _ _
      | exact LeO.none _
      | refine LeO.ite ?_ ?_
      | refine LeO.bind ?_ (fun _ => ?_)
theorem laws_eqTokenS.mono : ∀ a0 a1 k, LeO (laws_eqTokenS.f k a0 a1) (laws_eqTokenS.f (k + 1) a0 a1) := by
  intro a0 a1 k
  have ih0 := laws_eqTokenS.mono_l k
  unfold laws_eqTokenS.f
  repeat' first
      | (with_reducible exact ih0 _ _ _)
      | (with_reducible exact laws_eqToken.mono _ _ _ _ _ _ _ _ _ _ _)
      | (with_reducible exact LeO.refl _)
      | (with_reducible exact LeO.none _)
      | (with_reducible refine LeO.ite ?_ ?_)
      | (with_reducible refine LeO.bind ?_ (fun _ => ?_))
      | exact ih0 _ _ _
      | exact laws_eqToken.mono _ _ _ _ _ _ _ _ _ _ _
      | exact LeO.none _
      | refine LeO.ite ?_ ?_
      | refine LeO.bind ?_ (fun _ => ?_)
def laws_eqTokenS.T6 : Bool × List (List Nat × List Nat) := (true, [([], []), ([], []), ([0, 1], [0, 1]), ([2], [2]), ([], []), ([], []), ([4, 5], [4, 5]), ([6], [6]), ([3, 7], [3, 7]), ([8], [8])])
def laws_eqTokenS.B6 : List Nat := [0, 0, 3, 7, 0, 0, 48, 112, 255, 511]
theorem laws_eqTokenS.tab6 : rtab .any (opsOf Tryd.f6 6) = laws_eqTokenS.T6 := by kernel_rfl
theorem laws_eqTokenS.bits6 : waitsOk laws_eqTokenS.T6.2 laws_eqTokenS.B6 = true := by kernel_rfl
set_option maxHeartbeats 8000000 in
set_option maxRecDepth 100000 in
theorem laws_eqTokenS.calls (k : Nat) (A0 : Option Addr) (c0 : Nat) (l0 : List (S36)) (A1 : Option Addr) (c1 : Nat) (l1 : List (S36)) (r : Bool) (w : World) (hr0 : Kd.C k36 w A0 l0.length l0) (hc0 : l0.length ≤ c0) (hr1 : Kd.C k36 w A1 l1.length l1) (hc1 : l1.length ≤ c1) (h : laws_eqTokenS.f k l0 l1 = some r) :
    Calls Tryd.prog 6 #[.slice A0 l0.length c0, .slice A1 l1.length c1] w fun e w' => e = .returned (.bool r) ∧ Below w.heap.size w w' := by
  have hu36 := Tryd.underlying36
  have HR0 := am hr0
  have HC0 := am hc0
  clear hr0 hc0
  have HR1 := am hr1
  have HC1 := am hc1
  clear hr1 hc1
  have HB := am (Below.refl w.heap.size w)
  have H := h
  clear h
  unfold laws_eqTokenS.f at H
  by_cases c3 : (l0.length : Int) = (l1.length : Int)
  · rw [if_pos c3] at H
    have c3b0 : ((l0.length : Int) == (l1.length : Int)) = true := beq_iff_eq.mpr c3
    have c3b1 : ((l0.length : Int) != (l1.length : Int)) = false := bne_eq_false_iff_eq.mpr c3
    have c3b2 : (l0.length == l1.length) = true := by (simp at c3 ⊢; omega)
    clear c3
    have H' := am H
    clear H
    go_enter Tryd.func6, Tryd.ntmps6
    go_wp2
    go_loopg [5] k (fun kq v5 w' => ∃ (x5_1 : Int), v5 = .int .i64 x5_1 ∧ Aside0 (laws_eqTokenS.l0 kq l0 l1 x5_1 = some r) ∧ Aside0 (kq ≤ k) ∧ Aside0 (Below w.heap.size w w'))
    case atStart => exact ⟨(0), rfl, H', ⟨Nat.le_refl _⟩, ⟨by exact HB.out⟩⟩
    case round =>
      clear H'
      try clear c3b0
      try clear c3b1
      try clear c3b2
      obtain ⟨x5_1, rfl, HA, HK1, HB⟩ := hrel
      cases gk with
      | zero => exact absurd HA.out (by simp [laws_eqTokenS.l0])
      | succ k1 =>
        have H := HA.out
        clear HA
        simp only [laws_eqTokenS.l0] at H
        by_cases c4 : x5_1 < (l0.length : Int)
        · rw [if_pos c4] at H
          have c4b0 : decide (x5_1 < (l0.length : Int)) = true := decide_eq_true c4
          clear c4
          obtain ⟨c5b0, H⟩ := ifn1 H
          obtain ⟨c6b0, H⟩ := ifn1 H
          obtain ⟨t364, A7, H⟩ := bnd H
          obtain rfl | rfl := boo t364
          · rw [if_pos rfl] at H
            have H' := am H
            clear H
            try go_wp2
            have n0_ := am (below_drew1 HB.out)
            clear HB
            have HB := n0_
            clear n0_
            have p362 : 0 ≤ (x5_1 : Int) := of_decide_eq_true (by with_reducible assumption)
            have q362 : x5_1 < (l0.length : Int) := of_decide_eq_true (by with_reducible assumption)
            obtain ⟨ad362, A362_2, c362_2, e362, hx362_0, hx362_1, hx362_2, hx362_3, hx362_4, hl362_2, hi362_2⟩ := at_T36 HR0.out x5_1 p362 q362
            have hw362_4 := hx362_4
            have hw362_3 := hx362_3
            have hw362_2 := hx362_2
            have hw362_1 := hx362_1
            have hw362_0 := hx362_0
            cases e362
            replace hx362_0 := (HB.out.cell (World.block_lt_of_cell? w _ hx362_0)).trans hx362_0
            replace hx362_1 := (HB.out.cell (World.block_lt_of_cell? w _ hx362_1)).trans hx362_1
            replace hx362_2 := (HB.out.cell (World.block_lt_of_cell? w _ hx362_2)).trans hx362_2
            replace hx362_3 := (HB.out.cell (World.block_lt_of_cell? w _ hx362_3)).trans hx362_3
            replace hx362_4 := (HB.out.cell (World.block_lt_of_cell? w _ hx362_4)).trans hx362_4
            have HR362_2 := am hi362_2
            have HC362_2 := am hl362_2
            clear hi362_2 hl362_2
            replace p362 := eq_true p362
            replace q362 := eq_true q362
            have p363 : 0 ≤ (x5_1 : Int) := of_decide_eq_true (by with_reducible assumption)
            have q363 : x5_1 < (l1.length : Int) := of_decide_eq_true (by with_reducible assumption)
            obtain ⟨ad363, A363_2, c363_2, e363, hx363_0, hx363_1, hx363_2, hx363_3, hx363_4, hl363_2, hi363_2⟩ := at_T36 HR1.out x5_1 p363 q363
            have hw363_4 := hx363_4
            have hw363_3 := hx363_3
            have hw363_2 := hx363_2
            have hw363_1 := hx363_1
            have hw363_0 := hx363_0
            cases e363
            replace hx363_0 := (HB.out.cell (World.block_lt_of_cell? w _ hx363_0)).trans hx363_0
            replace hx363_1 := (HB.out.cell (World.block_lt_of_cell? w _ hx363_1)).trans hx363_1
            replace hx363_2 := (HB.out.cell (World.block_lt_of_cell? w _ hx363_2)).trans hx363_2
            replace hx363_3 := (HB.out.cell (World.block_lt_of_cell? w _ hx363_3)).trans hx363_3
            replace hx363_4 := (HB.out.cell (World.block_lt_of_cell? w _ hx363_4)).trans hx363_4
            have HR363_2 := am hi363_2
            have HC363_2 := am hl363_2
            clear hi363_2 hl363_2
            replace p363 := eq_true p363
            replace q363 := eq_true q363
            refine start_ (n := 10) (S := fun w' => w'.cell? (ad362.add ((x5_1).toNat * 5)) = some (.int .i64 ((rd_T36 l0 x5_1).f0)) ∧ w'.cell? ⟨(ad362.add ((x5_1).toNat * 5)).block, (ad362.add ((x5_1).toNat * 5)).off + 1, none⟩ = some (.string ((rd_T36 l0 x5_1).f1)) ∧ w'.cell? ⟨(ad362.add ((x5_1).toNat * 5)).block, (ad362.add ((x5_1).toNat * 5)).off + 2, none⟩ = some (.slice A362_2 ((rd_T36 l0 x5_1).f2).length c362_2) ∧ w'.cell? ⟨(ad362.add ((x5_1).toNat * 5)).block, (ad362.add ((x5_1).toNat * 5)).off + 3, none⟩ = some (.string ((rd_T36 l0 x5_1).f3)) ∧ w'.cell? ⟨(ad362.add ((x5_1).toNat * 5)).block, (ad362.add ((x5_1).toNat * 5)).off + 4, none⟩ = some (.bool ((rd_T36 l0 x5_1).f4)) ∧ w'.cell? (ad363.add ((x5_1).toNat * 5)) = some (.int .i64 ((rd_T36 l1 x5_1).f0)) ∧ w'.cell? ⟨(ad363.add ((x5_1).toNat * 5)).block, (ad363.add ((x5_1).toNat * 5)).off + 1, none⟩ = some (.string ((rd_T36 l1 x5_1).f1)) ∧ w'.cell? ⟨(ad363.add ((x5_1).toNat * 5)).block, (ad363.add ((x5_1).toNat * 5)).off + 2, none⟩ = some (.slice A363_2 ((rd_T36 l1 x5_1).f2).length c363_2) ∧ w'.cell? ⟨(ad363.add ((x5_1).toNat * 5)).block, (ad363.add ((x5_1).toNat * 5)).off + 3, none⟩ = some (.string ((rd_T36 l1 x5_1).f3)) ∧ w'.cell? ⟨(ad363.add ((x5_1).toNat * 5)).block, (ad363.add ((x5_1).toNat * 5)).off + 4, none⟩ = some (.bool ((rd_T36 l1 x5_1).f4))) (ds := []) #[false, false, false, false, false, false, false, false, false, false] (by kernel_rfl) rfl rfl ⟨((HB.out.cell (World.block_lt_of_cell? w _ hw362_0)).trans hw362_0), ((HB.out.cell (World.block_lt_of_cell? w _ hw362_1)).trans hw362_1), ((HB.out.cell (World.block_lt_of_cell? w _ hw362_2)).trans hw362_2), ((HB.out.cell (World.block_lt_of_cell? w _ hw362_3)).trans hw362_3), ((HB.out.cell (World.block_lt_of_cell? w _ hw362_4)).trans hw362_4), ((HB.out.cell (World.block_lt_of_cell? w _ hw363_0)).trans hw363_0), ((HB.out.cell (World.block_lt_of_cell? w _ hw363_1)).trans hw363_1), ((HB.out.cell (World.block_lt_of_cell? w _ hw363_2)).trans hw363_2), ((HB.out.cell (World.block_lt_of_cell? w _ hw363_3)).trans hw363_3), ((HB.out.cell (World.block_lt_of_cell? w _ hw363_4)).trans hw363_4)⟩ (fun hHeld => ?_); refine with_tabW laws_eqTokenS.tab6 laws_eqTokenS.bits6 (fun HT_ HW_ => ?_)
            generalize wr.drew = w9 at HB HR362_2 HR363_2 hx362_0 hx362_1 hx362_2 hx362_3 hx362_4 hx363_0 hx363_1 hx363_2 hx363_3 hx363_4 hHeld ⊢
            refine pure_ (i := 0) (N := some 17) (v := ?_) (a' := ?_) #[true, false, false, false, false, false, false, false, false, false] rfl rfl (any_of HT_.out (by kernel_rfl)) (fun _ _ _ h => h) (Or.inl ⟨rfl, ?_⟩) ?_ ?_
            rotate_left
            · intro w'
              go_simp
              with_reducible rfl
            rotate_left
            · simp only [Act.put, List.setIfInBounds_toArray, List.set_cons_zero, List.set_cons_succ, i64_w, i32_w]
              rfl
            refine pure_ (i := 1) (N := some 18) (v := ?_) (a' := ?_) #[true, true, false, false, false, false, false, false, false, false] rfl rfl (any_of HT_.out (by kernel_rfl)) (fun _ _ _ h => h) (Or.inl ⟨rfl, ?_⟩) ?_ ?_
            rotate_left
            · intro w'
              go_simp
              with_reducible rfl
            rotate_left
            · simp only [Act.put, List.setIfInBounds_toArray, List.set_cons_zero, List.set_cons_succ, i64_w, i32_w]
              rfl
            refine pure_ (i := 2) (N := some 19) (v := ?_) (a' := ?_) #[true, true, true, false, false, false, false, false, false, false] rfl rfl (any_of HT_.out (by kernel_rfl)) (fun _ _ _ h => h) (Or.inl ⟨rfl, ?_⟩) ?_ ?_
            rotate_left
            · intro w'
              go_simp
              with_reducible rfl
            rotate_left
            · simp only [Act.put, List.setIfInBounds_toArray, List.set_cons_zero, List.set_cons_succ, i64_w, i32_w]
              rfl
            refine pure_ (i := 4) (N := some 21) (v := ?_) (a' := ?_) #[true, true, true, false, true, false, false, false, false, false] rfl rfl (any_of HT_.out (by kernel_rfl)) (fun _ _ _ h => h) (Or.inl ⟨rfl, ?_⟩) ?_ ?_
            rotate_left
            · intro w'
              go_simp
              with_reducible rfl
            rotate_left
            · simp only [Act.put, List.setIfInBounds_toArray, List.set_cons_zero, List.set_cons_succ, i64_w, i32_w]
              rfl
            refine pure_ (i := 5) (N := some 22) (v := ?_) (a' := ?_) #[true, true, true, false, true, true, false, false, false, false] rfl rfl (any_of HT_.out (by kernel_rfl)) (fun _ _ _ h => h) (Or.inl ⟨rfl, ?_⟩) ?_ ?_
            rotate_left
            · intro w'
              go_simp
              with_reducible rfl
            rotate_left
            · simp only [Act.put, List.setIfInBounds_toArray, List.set_cons_zero, List.set_cons_succ, i64_w, i32_w]
              rfl
            refine pure_ (i := 6) (N := some 23) (v := ?_) (a' := ?_) #[true, true, true, false, true, true, true, false, false, false] rfl rfl (any_of HT_.out (by kernel_rfl)) (fun _ _ _ h => h) (Or.inl ⟨rfl, ?_⟩) ?_ ?_
            rotate_left
            · intro w'
              go_simp
              with_reducible rfl
            rotate_left
            · simp only [Act.put, List.setIfInBounds_toArray, List.set_cons_zero, List.set_cons_succ, i64_w, i32_w]
              rfl
            refine take_ (i := 3) (N := some 20) (v := ?_) (a' := ?_) #[true, true, true, true, true, true, true, false, false, false] rfl rfl (take_ofW HT_.out HW_.out (by kernel_rfl)) (fun _ _ _ h => h) (Or.inl ⟨rfl, ?_⟩) hHeld ?_ ?_
            rotate_left
            · rintro w' ⟨s0, s1, s2, s3, s4, s5, s6, s7, s8, s9⟩
              go_simp
              with_reducible rfl
            rotate_left
            · simp only [Act.put, List.setIfInBounds_toArray, List.set_cons_zero, List.set_cons_succ, i64_w, i32_w]
              rfl
            refine take_ (i := 7) (N := some 24) (v := ?_) (a' := ?_) #[true, true, true, true, true, true, true, true, false, false] rfl rfl (take_ofW HT_.out HW_.out (by kernel_rfl)) (fun _ _ _ h => h) (Or.inl ⟨rfl, ?_⟩) hHeld ?_ ?_
            rotate_left
            · rintro w' ⟨s0, s1, s2, s3, s4, s5, s6, s7, s8, s9⟩
              go_simp
              with_reducible rfl
            rotate_left
            · simp only [Act.put, List.setIfInBounds_toArray, List.set_cons_zero, List.set_cons_succ, i64_w, i32_w]
              rfl
            refine one_ (i := 8) (N := some 25) #[true, true, true, true, true, true, true, true, true, false] rfl rfl (one_of HT_.out (by kernel_rfl)) (by decide) (fun K hK => ?_)
            refine goes_ Tryd.func22 (by kernel_rfl) rfl #[.agg #[.int .i64 ((rd_T36 l0 x5_1).f0), .string ((rd_T36 l0 x5_1).f1), .slice A362_2 ((rd_T36 l0 x5_1).f2).length c362_2, .string ((rd_T36 l0 x5_1).f3), .bool ((rd_T36 l0 x5_1).f4)], .agg #[.int .i64 ((rd_T36 l1 x5_1).f0), .string ((rd_T36 l1 x5_1).f1), .slice A363_2 ((rd_T36 l1 x5_1).f2).length c363_2, .string ((rd_T36 l1 x5_1).f3), .bool ((rd_T36 l1 x5_1).f4)]] rfl rfl rfl (by simp only [List.map_toArray, List.map_cons, List.map_nil]; rfl) ?_
            with_reducible refine (laws_eqToken.calls k1 ((rd_T36 l0 x5_1).f0) ((rd_T36 l0 x5_1).f1) _ _ ((rd_T36 l0 x5_1).f2) ((rd_T36 l0 x5_1).f3) ((rd_T36 l0 x5_1).f4) ((rd_T36 l1 x5_1).f0) ((rd_T36 l1 x5_1).f1) _ _ ((rd_T36 l1 x5_1).f2) ((rd_T36 l1 x5_1).f3) ((rd_T36 l1 x5_1).f4) true _ ?side1 ?side2 ?side3 ?side4 A7.out).mono ?_
            (case side1 => repeat (exact (Kd.C_below HR362_2.out HB.out)))
            (case side2 => exact HC362_2.out)
            (case side3 => repeat (exact (Kd.C_below HR363_2.out HB.out)))
            (case side4 => exact HC363_2.out)
            rintro e w10 ⟨rfl, hb⟩
            refine ⟨_, rfl, ?_⟩
            have n0_ := am (below_step HB.out hb)
            clear HB
            have HB := n0_
            clear n0_
            (try clear hb)
            refine hK.out _ _ ⟨((HB.out.cell (World.block_lt_of_cell? w _ hw362_0)).trans hw362_0), ((HB.out.cell (World.block_lt_of_cell? w _ hw362_1)).trans hw362_1), ((HB.out.cell (World.block_lt_of_cell? w _ hw362_2)).trans hw362_2), ((HB.out.cell (World.block_lt_of_cell? w _ hw362_3)).trans hw362_3), ((HB.out.cell (World.block_lt_of_cell? w _ hw362_4)).trans hw362_4), ((HB.out.cell (World.block_lt_of_cell? w _ hw363_0)).trans hw363_0), ((HB.out.cell (World.block_lt_of_cell? w _ hw363_1)).trans hw363_1), ((HB.out.cell (World.block_lt_of_cell? w _ hw363_2)).trans hw363_2), ((HB.out.cell (World.block_lt_of_cell? w _ hw363_3)).trans hw363_3), ((HB.out.cell (World.block_lt_of_cell? w _ hw363_4)).trans hw363_4)⟩ (fun hHeld => ?_)
            clear hK K
            refine norm_ (a' := ?_) ?_ ?_
            rotate_left
            · show Act.put _ (some 25) _ = _
              simp only [Act.put, List.setIfInBounds_toArray, List.set_cons_zero, List.set_cons_succ, i64_w, i32_w]
              rfl
            refine pure_ (i := 9) (N := some 26) (v := ?_) (a' := ?_) #[true, true, true, true, true, true, true, true, true, true] rfl rfl (any_of HT_.out (by kernel_rfl)) (fun _ _ _ h => h) (Or.inl ⟨rfl, ?_⟩) ?_ ?_
            rotate_left
            · intro w'
              go_simp
              with_reducible rfl
            rotate_left
            · simp only [Act.put, List.setIfInBounds_toArray, List.set_cons_zero, List.set_cons_succ, i64_w, i32_w]
              rfl
            refine done_ (done_of HT_.out (by kernel_rfl)) ?_
            try go_wp2
            go_roundg k1
            case measure => have := HK1.out; omega
            case rel => exact ⟨(wrap64 (x5_1 + 1)), rfl, H', ⟨by have := HK1.out; omega⟩, ⟨by exact HB.out⟩⟩
          · rw [if_neg nft] at H
            obtain rfl := Option.some.inj H
            try go_wp2
            have n0_ := am (below_drew1 HB.out)
            clear HB
            have HB := n0_
            clear n0_
            have p362 : 0 ≤ (x5_1 : Int) := of_decide_eq_true (by with_reducible assumption)
            have q362 : x5_1 < (l0.length : Int) := of_decide_eq_true (by with_reducible assumption)
            obtain ⟨ad362, A362_2, c362_2, e362, hx362_0, hx362_1, hx362_2, hx362_3, hx362_4, hl362_2, hi362_2⟩ := at_T36 HR0.out x5_1 p362 q362
            have hw362_4 := hx362_4
            have hw362_3 := hx362_3
            have hw362_2 := hx362_2
            have hw362_1 := hx362_1
            have hw362_0 := hx362_0
            cases e362
            replace hx362_0 := (HB.out.cell (World.block_lt_of_cell? w _ hx362_0)).trans hx362_0
            replace hx362_1 := (HB.out.cell (World.block_lt_of_cell? w _ hx362_1)).trans hx362_1
            replace hx362_2 := (HB.out.cell (World.block_lt_of_cell? w _ hx362_2)).trans hx362_2
            replace hx362_3 := (HB.out.cell (World.block_lt_of_cell? w _ hx362_3)).trans hx362_3
            replace hx362_4 := (HB.out.cell (World.block_lt_of_cell? w _ hx362_4)).trans hx362_4
            have HR362_2 := am hi362_2
            have HC362_2 := am hl362_2
            clear hi362_2 hl362_2
            replace p362 := eq_true p362
            replace q362 := eq_true q362
            have p363 : 0 ≤ (x5_1 : Int) := of_decide_eq_true (by with_reducible assumption)
            have q363 : x5_1 < (l1.length : Int) := of_decide_eq_true (by with_reducible assumption)
            obtain ⟨ad363, A363_2, c363_2, e363, hx363_0, hx363_1, hx363_2, hx363_3, hx363_4, hl363_2, hi363_2⟩ := at_T36 HR1.out x5_1 p363 q363
            have hw363_4 := hx363_4
            have hw363_3 := hx363_3
            have hw363_2 := hx363_2
            have hw363_1 := hx363_1
            have hw363_0 := hx363_0
            cases e363
            replace hx363_0 := (HB.out.cell (World.block_lt_of_cell? w _ hx363_0)).trans hx363_0
            replace hx363_1 := (HB.out.cell (World.block_lt_of_cell? w _ hx363_1)).trans hx363_1
            replace hx363_2 := (HB.out.cell (World.block_lt_of_cell? w _ hx363_2)).trans hx363_2
            replace hx363_3 := (HB.out.cell (World.block_lt_of_cell? w _ hx363_3)).trans hx363_3
            replace hx363_4 := (HB.out.cell (World.block_lt_of_cell? w _ hx363_4)).trans hx363_4
            have HR363_2 := am hi363_2
            have HC363_2 := am hl363_2
            clear hi363_2 hl363_2
            replace p363 := eq_true p363
            replace q363 := eq_true q363
            refine start_ (n := 10) (S := fun w' => w'.cell? (ad362.add ((x5_1).toNat * 5)) = some (.int .i64 ((rd_T36 l0 x5_1).f0)) ∧ w'.cell? ⟨(ad362.add ((x5_1).toNat * 5)).block, (ad362.add ((x5_1).toNat * 5)).off + 1, none⟩ = some (.string ((rd_T36 l0 x5_1).f1)) ∧ w'.cell? ⟨(ad362.add ((x5_1).toNat * 5)).block, (ad362.add ((x5_1).toNat * 5)).off + 2, none⟩ = some (.slice A362_2 ((rd_T36 l0 x5_1).f2).length c362_2) ∧ w'.cell? ⟨(ad362.add ((x5_1).toNat * 5)).block, (ad362.add ((x5_1).toNat * 5)).off + 3, none⟩ = some (.string ((rd_T36 l0 x5_1).f3)) ∧ w'.cell? ⟨(ad362.add ((x5_1).toNat * 5)).block, (ad362.add ((x5_1).toNat * 5)).off + 4, none⟩ = some (.bool ((rd_T36 l0 x5_1).f4)) ∧ w'.cell? (ad363.add ((x5_1).toNat * 5)) = some (.int .i64 ((rd_T36 l1 x5_1).f0)) ∧ w'.cell? ⟨(ad363.add ((x5_1).toNat * 5)).block, (ad363.add ((x5_1).toNat * 5)).off + 1, none⟩ = some (.string ((rd_T36 l1 x5_1).f1)) ∧ w'.cell? ⟨(ad363.add ((x5_1).toNat * 5)).block, (ad363.add ((x5_1).toNat * 5)).off + 2, none⟩ = some (.slice A363_2 ((rd_T36 l1 x5_1).f2).length c363_2) ∧ w'.cell? ⟨(ad363.add ((x5_1).toNat * 5)).block, (ad363.add ((x5_1).toNat * 5)).off + 3, none⟩ = some (.string ((rd_T36 l1 x5_1).f3)) ∧ w'.cell? ⟨(ad363.add ((x5_1).toNat * 5)).block, (ad363.add ((x5_1).toNat * 5)).off + 4, none⟩ = some (.bool ((rd_T36 l1 x5_1).f4))) (ds := []) #[false, false, false, false, false, false, false, false, false, false] (by kernel_rfl) rfl rfl ⟨((HB.out.cell (World.block_lt_of_cell? w _ hw362_0)).trans hw362_0), ((HB.out.cell (World.block_lt_of_cell? w _ hw362_1)).trans hw362_1), ((HB.out.cell (World.block_lt_of_cell? w _ hw362_2)).trans hw362_2), ((HB.out.cell (World.block_lt_of_cell? w _ hw362_3)).trans hw362_3), ((HB.out.cell (World.block_lt_of_cell? w _ hw362_4)).trans hw362_4), ((HB.out.cell (World.block_lt_of_cell? w _ hw363_0)).trans hw363_0), ((HB.out.cell (World.block_lt_of_cell? w _ hw363_1)).trans hw363_1), ((HB.out.cell (World.block_lt_of_cell? w _ hw363_2)).trans hw363_2), ((HB.out.cell (World.block_lt_of_cell? w _ hw363_3)).trans hw363_3), ((HB.out.cell (World.block_lt_of_cell? w _ hw363_4)).trans hw363_4)⟩ (fun hHeld => ?_); refine with_tabW laws_eqTokenS.tab6 laws_eqTokenS.bits6 (fun HT_ HW_ => ?_)
            generalize wr.drew = w11 at HB HR362_2 HR363_2 hx362_0 hx362_1 hx362_2 hx362_3 hx362_4 hx363_0 hx363_1 hx363_2 hx363_3 hx363_4 hHeld ⊢
            refine pure_ (i := 0) (N := some 17) (v := ?_) (a' := ?_) #[true, false, false, false, false, false, false, false, false, false] rfl rfl (any_of HT_.out (by kernel_rfl)) (fun _ _ _ h => h) (Or.inl ⟨rfl, ?_⟩) ?_ ?_
            rotate_left
            · intro w'
              go_simp
              with_reducible rfl
            rotate_left
            · simp only [Act.put, List.setIfInBounds_toArray, List.set_cons_zero, List.set_cons_succ, i64_w, i32_w]
              rfl
            refine pure_ (i := 1) (N := some 18) (v := ?_) (a' := ?_) #[true, true, false, false, false, false, false, false, false, false] rfl rfl (any_of HT_.out (by kernel_rfl)) (fun _ _ _ h => h) (Or.inl ⟨rfl, ?_⟩) ?_ ?_
            rotate_left
            · intro w'
              go_simp
              with_reducible rfl
            rotate_left
            · simp only [Act.put, List.setIfInBounds_toArray, List.set_cons_zero, List.set_cons_succ, i64_w, i32_w]
              rfl
            refine pure_ (i := 2) (N := some 19) (v := ?_) (a' := ?_) #[true, true, true, false, false, false, false, false, false, false] rfl rfl (any_of HT_.out (by kernel_rfl)) (fun _ _ _ h => h) (Or.inl ⟨rfl, ?_⟩) ?_ ?_
            rotate_left
            · intro w'
              go_simp
              with_reducible rfl
            rotate_left
            · simp only [Act.put, List.setIfInBounds_toArray, List.set_cons_zero, List.set_cons_succ, i64_w, i32_w]
              rfl
            refine pure_ (i := 4) (N := some 21) (v := ?_) (a' := ?_) #[true, true, true, false, true, false, false, false, false, false] rfl rfl (any_of HT_.out (by kernel_rfl)) (fun _ _ _ h => h) (Or.inl ⟨rfl, ?_⟩) ?_ ?_
            rotate_left
            · intro w'
              go_simp
              with_reducible rfl
            rotate_left
            · simp only [Act.put, List.setIfInBounds_toArray, List.set_cons_zero, List.set_cons_succ, i64_w, i32_w]
              rfl
            refine pure_ (i := 5) (N := some 22) (v := ?_) (a' := ?_) #[true, true, true, false, true, true, false, false, false, false] rfl rfl (any_of HT_.out (by kernel_rfl)) (fun _ _ _ h => h) (Or.inl ⟨rfl, ?_⟩) ?_ ?_
            rotate_left
            · intro w'
              go_simp
              with_reducible rfl
            rotate_left
            · simp only [Act.put, List.setIfInBounds_toArray, List.set_cons_zero, List.set_cons_succ, i64_w, i32_w]
              rfl
            refine pure_ (i := 6) (N := some 23) (v := ?_) (a' := ?_) #[true, true, true, false, true, true, true, false, false, false] rfl rfl (any_of HT_.out (by kernel_rfl)) (fun _ _ _ h => h) (Or.inl ⟨rfl, ?_⟩) ?_ ?_
            rotate_left
            · intro w'
              go_simp
              with_reducible rfl
            rotate_left
            · simp only [Act.put, List.setIfInBounds_toArray, List.set_cons_zero, List.set_cons_succ, i64_w, i32_w]
              rfl
            refine take_ (i := 3) (N := some 20) (v := ?_) (a' := ?_) #[true, true, true, true, true, true, true, false, false, false] rfl rfl (take_ofW HT_.out HW_.out (by kernel_rfl)) (fun _ _ _ h => h) (Or.inl ⟨rfl, ?_⟩) hHeld ?_ ?_
            rotate_left
            · rintro w' ⟨s0, s1, s2, s3, s4, s5, s6, s7, s8, s9⟩
              go_simp
              with_reducible rfl
            rotate_left
            · simp only [Act.put, List.setIfInBounds_toArray, List.set_cons_zero, List.set_cons_succ, i64_w, i32_w]
              rfl
            refine take_ (i := 7) (N := some 24) (v := ?_) (a' := ?_) #[true, true, true, true, true, true, true, true, false, false] rfl rfl (take_ofW HT_.out HW_.out (by kernel_rfl)) (fun _ _ _ h => h) (Or.inl ⟨rfl, ?_⟩) hHeld ?_ ?_
            rotate_left
            · rintro w' ⟨s0, s1, s2, s3, s4, s5, s6, s7, s8, s9⟩
              go_simp
              with_reducible rfl
            rotate_left
            · simp only [Act.put, List.setIfInBounds_toArray, List.set_cons_zero, List.set_cons_succ, i64_w, i32_w]
              rfl
            refine one_ (i := 8) (N := some 25) #[true, true, true, true, true, true, true, true, true, false] rfl rfl (one_of HT_.out (by kernel_rfl)) (by decide) (fun K hK => ?_)
            refine goes_ Tryd.func22 (by kernel_rfl) rfl #[.agg #[.int .i64 ((rd_T36 l0 x5_1).f0), .string ((rd_T36 l0 x5_1).f1), .slice A362_2 ((rd_T36 l0 x5_1).f2).length c362_2, .string ((rd_T36 l0 x5_1).f3), .bool ((rd_T36 l0 x5_1).f4)], .agg #[.int .i64 ((rd_T36 l1 x5_1).f0), .string ((rd_T36 l1 x5_1).f1), .slice A363_2 ((rd_T36 l1 x5_1).f2).length c363_2, .string ((rd_T36 l1 x5_1).f3), .bool ((rd_T36 l1 x5_1).f4)]] rfl rfl rfl (by simp only [List.map_toArray, List.map_cons, List.map_nil]; rfl) ?_
            with_reducible refine (laws_eqToken.calls k1 ((rd_T36 l0 x5_1).f0) ((rd_T36 l0 x5_1).f1) _ _ ((rd_T36 l0 x5_1).f2) ((rd_T36 l0 x5_1).f3) ((rd_T36 l0 x5_1).f4) ((rd_T36 l1 x5_1).f0) ((rd_T36 l1 x5_1).f1) _ _ ((rd_T36 l1 x5_1).f2) ((rd_T36 l1 x5_1).f3) ((rd_T36 l1 x5_1).f4) false _ ?side1 ?side2 ?side3 ?side4 A7.out).mono ?_
            (case side1 => repeat (exact (Kd.C_below HR362_2.out HB.out)))
            (case side2 => exact HC362_2.out)
            (case side3 => repeat (exact (Kd.C_below HR363_2.out HB.out)))
            (case side4 => exact HC363_2.out)
            rintro e w12 ⟨rfl, hb⟩
            refine ⟨_, rfl, ?_⟩
            have n0_ := am (below_step HB.out hb)
            clear HB
            have HB := n0_
            clear n0_
            (try clear hb)
            refine hK.out _ _ ⟨((HB.out.cell (World.block_lt_of_cell? w _ hw362_0)).trans hw362_0), ((HB.out.cell (World.block_lt_of_cell? w _ hw362_1)).trans hw362_1), ((HB.out.cell (World.block_lt_of_cell? w _ hw362_2)).trans hw362_2), ((HB.out.cell (World.block_lt_of_cell? w _ hw362_3)).trans hw362_3), ((HB.out.cell (World.block_lt_of_cell? w _ hw362_4)).trans hw362_4), ((HB.out.cell (World.block_lt_of_cell? w _ hw363_0)).trans hw363_0), ((HB.out.cell (World.block_lt_of_cell? w _ hw363_1)).trans hw363_1), ((HB.out.cell (World.block_lt_of_cell? w _ hw363_2)).trans hw363_2), ((HB.out.cell (World.block_lt_of_cell? w _ hw363_3)).trans hw363_3), ((HB.out.cell (World.block_lt_of_cell? w _ hw363_4)).trans hw363_4)⟩ (fun hHeld => ?_)
            clear hK K
            refine norm_ (a' := ?_) ?_ ?_
            rotate_left
            · show Act.put _ (some 25) _ = _
              simp only [Act.put, List.setIfInBounds_toArray, List.set_cons_zero, List.set_cons_succ, i64_w, i32_w]
              rfl
            refine pure_ (i := 9) (N := some 26) (v := ?_) (a' := ?_) #[true, true, true, true, true, true, true, true, true, true] rfl rfl (any_of HT_.out (by kernel_rfl)) (fun _ _ _ h => h) (Or.inl ⟨rfl, ?_⟩) ?_ ?_
            rotate_left
            · intro w'
              go_simp
              with_reducible rfl
            rotate_left
            · simp only [Act.put, List.setIfInBounds_toArray, List.set_cons_zero, List.set_cons_succ, i64_w, i32_w]
              rfl
            refine done_ (done_of HT_.out (by kernel_rfl)) ?_
            try go_wp2
            go_ret
            exact ⟨rfl, by exact HB.out⟩
        · rw [if_neg c4] at H
          have c4b0 : decide (x5_1 < (l0.length : Int)) = false := decide_eq_false c4
          clear c4
          obtain rfl := Option.some.inj H
          go_wp2
          go_ret
          exact ⟨rfl, by exact HB.out⟩
  · rw [if_neg c3] at H
    have c3b0 : ((l0.length : Int) == (l1.length : Int)) = false := beq_eq_false_iff_ne.mpr c3
    have c3b1 : ((l0.length : Int) != (l1.length : Int)) = true := bne_iff_ne.mpr c3
    have c3b2 : (l0.length == l1.length) = false := by (simp at c3 ⊢; omega)
    obtain rfl := Option.some.inj H
    go_enter Tryd.func6, Tryd.ntmps6
    go_wp2
    go_ret
    exact ⟨rfl, by exact HB.out⟩
end Go.Proofs.YtnjnoabldjodcaaDoor.PFnExactTokens
