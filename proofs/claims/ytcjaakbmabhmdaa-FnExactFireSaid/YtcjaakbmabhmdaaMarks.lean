/- laws.markNodeS, laws.markTree: the marks that are laid into a tree: what is kept, how far the numbers run. -/
import Derived.Test.YtcjaakbmabhmdaaLawBits
import Derived.Test.YtcjaakbmabhmdaaIntRows
import Derived.Test.YtcjaakbmabhmdaaTwig
namespace Go.Proofs.Ytcjaakbmabhmdaa.Impl
open Go.RowKit Go.Proofs.YtcjaakbmabhmdaaW.PrintWords Go.Proofs.YtcjaakbmabhmdaaW.PrintLast Go.Proofs.YtcjaakbmabhmdaaW.PrintMore Go.Proofs.Ytcjaakbmabhmdaa.PFnExactFire Go.Proofs.Ytcjaakbmabhmdaa.MapLib Go.Proofs.Ytcjaakbmabhmdaa.FireSpec Go.Proofs.Ytcjaakbmabhmdaa.Tr
set_option linter.unusedVariables false
set_option linter.unusedSimpArgs false

/-- A row of nodes that is being marked: its block, the attributes' rows from node cur on. -/
structure Marks (w : World) (base g n : Nat) (vs : Nat → Value) (ls : Nat → Nat) (cur : Nat) : Prop where
  blk : ∃ cs, w.heap[g]? = some (.cells cs 52 (0, 0)) ∧ (∀ j, j < n * 6 → ∃ u, cs[j]? = some u) ∧ ∀ i, i < n → cs[i * 6 + 3]? = some (vs i)
  row : ∀ i, cur ≤ i → i < n → ∃ ys : List S92, ys.length = ls i ∧ Kd.R k92 92 w base (fun k => some k = (vs i).ownBlock) (vs i) ys
  apart : ∀ i i', i < n → i' < n → i ≠ i' → ∀ k, (vs i).ownBlock = some k → (vs i').ownBlock ≠ some k
section
variable {w w1 : World} {base g n : Nat} {vs : Nat → Value} {ls : Nat → Nat} {cur : Nat}
theorem Marks.lt (h : Marks w base g n vs ls cur) : g < w.heap.size := by
  obtain ⟨cs, h1, _⟩ := h.blk
  exact blk_lt h1
theorem Marks.cell (h : Marks w base g n vs ls cur) {i : Nat} (hi : i < n) (j : Nat) (hj : j < 6) : (∃ u, w.cell? ⟨g, i * 6 + j, none⟩ = some u) ∧ w.frozen? ⟨g, i * 6 + j, none⟩ = false := by
  obtain ⟨cs, h1, h2, _⟩ := h.blk
  obtain ⟨u, hu⟩ := h2 (i * 6 + j) (by omega)
  exact ⟨⟨u, by rw [blk_cell h1]; exact hu⟩, blk_frozen h1 _⟩
theorem Marks.attrs (h : Marks w base g n vs ls cur) {i : Nat} (hi : i < n) : w.cell? ⟨g, i * 6 + 3, none⟩ = some (vs i) := by
  obtain ⟨cs, h1, _, h3⟩ := h.blk
  rw [blk_cell h1]
  exact h3 i hi
theorem Marks.ne (h : Marks w base g n vs ls cur) {i : Nat} (h0 : cur ≤ i) (hi : i < n) : (vs i).ownBlock ≠ some g := by
  intro e
  obtain ⟨ys, _, hr⟩ := h.row i h0 hi
  obtain ⟨inner, ho⟩ := Kd.R_own hr
  obtain ⟨cells, hc⟩ := own_typed ho g e
  obtain ⟨cs, h1, _⟩ := h.blk
  rw [h1] at hc
  injection hc with hc
  injection hc with _ hc
  exact absurd hc (by decide)
theorem Marks.under (h : Marks w base g n vs ls cur) (hb : Below w.heap.size w w1) : Marks w1 base g n vs ls cur := by
  obtain ⟨cs, h1, h2⟩ := h.blk
  exact ⟨⟨cs, blk_below h1 hb, h2⟩, fun i h0 hi => by obtain ⟨ys, e, hr⟩ := h.row i h0 hi; exact ⟨ys, e, Kd.R_below hr hb⟩, h.apart⟩
theorem Marks.store (h : Marks w base g n vs ls cur) {i j : Nat} (hi : i < n) (hj : j < 6) (hj3 : j ≠ 3) (u : Value) (hw : w1 = w.setCell ⟨g, i * 6 + j, none⟩ u) :
    Marks w1 base g n vs ls cur ∧ Kept w w1 (fun k => k = g) ∧ ∀ B w0, Below B w0 w → B ≤ g → Below B w0 w1 := by
  obtain ⟨cs, h1, h2, h3⟩ := h.blk
  obtain ⟨k1, k2, k3, k4⟩ := set_block hw h1
  refine ⟨⟨⟨_, k1, fun j' hj' => ?_, fun i' hi' => ?_⟩, fun i' h0 hi' => ?_, h.apart⟩, ⟨by omega, fun k hk hne => k2 k hne⟩, k4⟩
  · obtain ⟨x, hx⟩ := h2 j' hj'
    rw [Array.getElem?_setIfInBounds]
    split
    · split
      · exact ⟨_, rfl⟩
      · rename_i hlt
        exfalso
        obtain ⟨hl, _⟩ := Array.getElem?_eq_some_iff.1 hx
        omega
    · exact ⟨x, hx⟩
  · rw [Array.getElem?_setIfInBounds_ne (by omega)]
    exact h3 i' hi'
  · obtain ⟨ys, e, hr⟩ := h.row i' h0 hi'
    have hne := h.ne h0 hi'
    exact ⟨ys, e, Kd.R_move hr (fun k hk => k2 k (fun e => hne (by rw [← e]; exact hk.symm)))⟩
theorem Marks.next (h : Marks w base g n vs ls cur) (hi : cur < n) (hk : Kept w w1 (fun k => some k = (vs cur).ownBlock)) : Marks w1 base g n vs ls (cur + 1) := by
  obtain ⟨cs, h1, h2, h3⟩ := h.blk
  refine ⟨⟨cs, (hk.2 g (blk_lt h1) (fun e => h.ne (Nat.le_refl _) hi e.symm)).trans h1, h2, h3⟩, fun i' h0 hi' => ?_, h.apart⟩
  obtain ⟨ys, e, hr⟩ := h.row i' (by omega) hi'
  exact ⟨ys, e, Kd.R_step hr (fun k hk1 hk2 => hk.2 k hk2 (fun e2 => h.apart cur i' hi hi' (by omega) k e2.symm hk1.symm))⟩
end
def cost (xs : List S52) : Nat := (xs.map (fun x => 5 + 2 * x.f3.length)).sum
theorem cost_append (xs ys : List S52) : cost (xs ++ ys) = cost xs + cost ys := by simp [cost]
theorem cost_take (xs : List S52) (i : Nat) (hi : i < xs.length) : cost (xs.take (i + 1)) = cost (xs.take i) + (5 + 2 * (xs.getD i z52).f3.length) := by
  rw [List.take_succ_eq_append_getElem hi, cost_append, List.getD_eq_getElem?_getD, List.getElem?_eq_getElem hi]
  simp [cost]
theorem cost_le (xs : List S52) (i : Nat) : cost (xs.take i) ≤ cost xs := by
  have h := cost_append (xs.take i) (xs.drop i)
  rw [List.take_append_drop] at h
  omega
theorem len_cost : ∀ xs : List S52, xs.length ≤ cost xs
  | [] => by simp
  | x :: xs => by
    have h := len_cost xs
    have e : cost (x :: xs) = (5 + 2 * x.f3.length) + cost xs := by simp [cost]
    rw [e, List.length_cons]
    omega
/-- The tree's row as it came. -/
theorem marks_of {w : World} {base : Nat} {ok : Nat → Prop} {v : Value} {xs : List S52} (h : Kd.S k52 52 w base ok v xs) (hp : 0 < xs.length) :
    ∃ g c vs, v = .slice (some ⟨g, 0, none⟩) xs.length c ∧ base ≤ g ∧ ok g ∧ (∀ i k, i < xs.length → (vs i).ownBlock = some k → ok k ∧ base ≤ k) ∧ Marks w base g xs.length vs (fun i => (xs.getD i z52).f3.length) 0 := by
  obtain ⟨g, c, rfl, hg, hlt, cells, hc⟩ := Kd.S_form h hp
  obtain ⟨f, hR⟩ := h
  obtain ⟨hok0, inner, ho, hr⟩ := hR
  have hgo : (Value.slice (some ⟨g, 0, none⟩) xs.length c).ownBlock = some g := rfl
  have hlen : inner.length = xs.length * 6 := by have := hr.1; rw [List.length_zipIdx] at this; exact this
  have hcell : ∀ j u, inner[j]? = some u → cells[j]? = some u := fun j u hu => by
    have := ho.cells (g := g) hgo j u hu
    rw [add_plain] at this
    rw [← blk_cell hc j]
    exact this
  have hel : ∀ i, i < xs.length → ∃ v3, inner[i * 6 + 3]? = some v3 ∧ Kd.R k92 92 w base (fun k => (ok k ∧ some k ≠ (Value.slice (some ⟨g, 0, none⟩) xs.length c).ownBlock) ∧ f k = i) v3 (xs.getD i z52).f3 := fun i hi => by
    have hM := hr.2 i (xs[i], i) (by simp [hi])
    obtain ⟨v3, e, hR3⟩ := k52_openM (show k52.M w base _ xs[i] _ from hM)
    refine ⟨v3, ?_, ?_⟩
    · have h3 := congrArg (fun l => l[3]?) e
      simp only [List.getElem?_take, List.getElem?_drop] at h3
      have h4 : 3 < (Kd.tag f k52).sz ∧ inner[i * (Kd.tag f k52).sz + 3]? = some v3 := by simpa using h3
      exact h4.2
    · rw [List.getD_eq_getElem?_getD, List.getElem?_eq_getElem hi]
      exact hR3
  have hv : ∀ i, i < xs.length → inner[i * 6 + 3]? = some (inner[i * 6 + 3]?.getD undef) ∧ Kd.R k92 92 w base (fun k => (ok k ∧ some k ≠ (Value.slice (some ⟨g, 0, none⟩) xs.length c).ownBlock) ∧ f k = i) (inner[i * 6 + 3]?.getD undef) (xs.getD i z52).f3 := fun i hi => by
    obtain ⟨v3, e, hR3⟩ := hel i hi
    rw [e]
    exact ⟨rfl, hR3⟩
  refine ⟨g, c, fun i => inner[i * 6 + 3]?.getD undef, rfl, hg, hok0 g hgo, fun i k hi hk => ⟨((hv i hi).2.1 k hk).1.1, Kd.R_base (hv i hi).2 k hk⟩, ⟨cells, hc, fun j hj => ?_, fun i hi => hcell _ _ (hv i hi).1⟩, fun i _ hi => ⟨_, rfl, Kd.R_tight rfl (hv i hi).2⟩, fun i i' hi hi' hne k hk hk' => hne ?_⟩
  · obtain ⟨u, hu⟩ : ∃ u, inner[j]? = some u := ⟨_, List.getElem?_eq_getElem (by omega)⟩
    exact ⟨u, hcell j u hu⟩
  · exact ((hv i hi).2.1 k hk).2.symm.trans ((hv i' hi').2.1 k hk').2
def MarksEnd (w0 w : World) (ok : Nat → Prop) (a : Int) (c : Nat) (e : Ending) (w' : World) : Prop :=
  ∃ r : Int, e = .returned (.int .i64 r) ∧ a ≤ r ∧ r ≤ a + c ∧ Below w0.heap.size w0 w' ∧ Kept w w' ok
set_option maxHeartbeats 4000000 in
set_option maxRecDepth 100000 in
theorem markNodeS_calls (v : Value) (xs : List S52) (a : Int) (w0 w : World) (ok : Nat → Prop) (hB : Below w0.heap.size w0 w) (hS : Kd.S k52 52 w w0.heap.size ok v xs) (h0 : 0 ≤ a) (hb : a + cost xs < 2 ^ 58) :
    Calls Try.prog 34 #[v, .int .i64 a] w (MarksEnd w0 w ok a (cost xs)) := by
  have hu := Try.underlying52
  cases xs with
  | nil =>
    obtain ⟨A, c, rfl⟩ := Kd.S_slice hS
    have HB := Aside0.mk hB
    clear hS hB
    go_enter Try.func34, Try.ntmps34
    go_wp2
    go_loopg [1, 5] 1 (fun kq v1 v5 wr => v1 = .int .i64 a ∧ v5 = .int .i64 0 ∧ wr = w)
    case atStart => exact ⟨rfl, rfl, rfl⟩
    case round =>
      obtain ⟨rfl, rfl, hw⟩ := hrel
      subst hw
      go_wp2
      go_ret
      exact ⟨a, rfl, Int.le_refl _, by omega, HB.out, Kept.refl _ _⟩
  | cons x0 xr =>
    obtain ⟨g, c, vs, rfl, hg, hokg, hokv, hM⟩ := marks_of hS (by simp)
    generalize hxs : x0 :: xr = xs at *
    have hcost := cost_le xs
    have HX := Aside0.mk (And.intro hB (And.intro hM (And.intro hg (And.intro hokg (And.intro hokv (And.intro h0 hb))))))
    have hxl := len_cost xs
    have hxb : xs.length ≤ 288230376151711744 := by omega
    clear hxs hS hB hg hokg hokv hM hcost hxl
    generalize hls : (fun i => (xs.getD i z52).f3.length) = ls at HX
    have HLS := Aside0.mk hls
    clear hls
    go_enter Try.func34, Try.ntmps34
    go_wp2
    go_loopg [1, 5] (xs.length + 1) (fun kq v1 v5 wr => ∃ (i : Nat) (m : Int), v1 = .int .i64 m ∧ v5 = .int .i64 i ∧ Aside0 (i + kq = xs.length + 1 ∧ i ≤ xs.length ∧ a ≤ m ∧ m ≤ a + cost (xs.take i)) ∧ Aside0 (Marks wr w0.heap.size g xs.length vs ls i) ∧ Aside0 (Below w0.heap.size w0 wr ∧ Kept w wr ok))
    case atStart => exact ⟨0, a, rfl, rfl, ⟨by omega, by omega, Int.le_refl _, by simp [cost]⟩, ⟨HX.out.2.1⟩, ⟨HX.out.1, Kept.refl _ _⟩⟩
    case round =>
      obtain ⟨i, m, rfl, rfl, HI, HM, HK⟩ := hrel
      by_cases hlt : i < xs.length
      · have hd : decide ((i : Int) < (xs.length : Int)) = true := decide_eq_true (by omega)
        have hd2 : decide (i < xs.length) = true := decide_eq_true hlt
        have hi0 : (i : Int) < xs.length := by omega
        have hib : (i : Int) ≤ 288230376151711744 := by omega
        have hcl := cost_le xs i
        have hmb : a ≤ m ∧ m ≤ 288230376151711744 := by have h1 := HI.out; have h2 := HX.out.2.2.2.2.2.2; omega
        have hm0 : 0 ≤ m := by have := HX.out.2.2.2.2.2.1; omega
        have hmm := hmb.2
        obtain ⟨⟨u0, hx0⟩, hf0⟩ := HM.out.cell hlt 0 (by omega)
        have HI2 := Aside0.mk hlt
        clear hlt hcl hmb
        rw [Nat.add_zero] at hx0 hf0
        go_upto_region 5 with (fail)
        generalize hw1 : World.setCell wr _ _ = w1
        obtain ⟨hM1, hK1, hB1⟩ := HM.out.store (j := 0) HI2.out (by omega) (by omega) (.int .i64 m) hw1.symm
        have HK1 := Aside0.mk (And.intro (hB1 _ _ HK.out.1 HX.out.2.2.1) (HK.out.2.then_ hK1 (fun k hk => .inl (by rw [hk]; exact HX.out.2.2.2.1))))
        have HM1 := Aside0.mk hM1
        obtain ⟨⟨u1, hx1⟩, hf1⟩ := hM1.cell HI2.out 1 (by omega)
        clear hw1 hM1 hK1 hB1 hx0 hf0 HM HK
        go_upto_region 7 with (fail)
        generalize hw2 : World.setCell w1 _ _ = w2
        obtain ⟨hM2, hK2, hB2⟩ := HM1.out.store (j := 1) HI2.out (by omega) (by omega) (.int .i64 (m + 1)) hw2.symm
        have HK2 := Aside0.mk (And.intro (hB2 _ _ HK1.out.1 HX.out.2.2.1) (HK1.out.2.then_ hK2 (fun k hk => .inl (by rw [hk]; exact HX.out.2.2.2.1))))
        have HM2 := Aside0.mk hM2
        clear hw2 hM2 hK2 hB2 hx1 hf1 HM1 HK1
        obtain ⟨t1, ht1⟩ := markText_f (m + 1 + 1) (by omega) (by omega)
        obtain ⟨kt1, hkt1⟩ := ht1.some
        have HT1 := Aside0.mk hkt1
        clear ht1 hkt1
        go_upto_region 9 with (first | (go_at_call 35; refine (laws_markText.calls kt1 (m + 1 + 1) t1 _ HT1.out).mono ?_; rintro e w3 ⟨rfl, hb3⟩; have HM3 := Aside0.mk (HM2.out.under hb3); have HK3 := Aside0.mk (And.intro (below_step HK2.out.1 hb3) (HK2.out.2.below hb3)); obtain ⟨⟨u3, hx3⟩, hf3⟩ := HM3.out.cell HI2.out 2 (by omega); clear hb3))
        generalize hw4 : World.setCell w3 _ _ = w4
        obtain ⟨hM4, hK4, hB4⟩ := HM3.out.store (j := 2) HI2.out (by omega) (by omega) (.string t1) hw4.symm
        have HK4 := Aside0.mk (And.intro (hB4 _ _ HK3.out.1 HX.out.2.2.1) (HK3.out.2.then_ hK4 (fun k hk => .inl (by rw [hk]; exact HX.out.2.2.2.1))))
        have HM4 := Aside0.mk hM4
        have hx4 := hM4.attrs HI2.out
        obtain ⟨ys, hyl, hyr⟩ := hM4.row i (Nat.le_refl _) HI2.out
        have hcst := cost_take xs i HI2.out
        have hctl := cost_le xs (i + 1)
        have hyl2 : ys.length = (xs.getD i z52).f3.length := by rw [hyl, ← HLS.out]
        rw [← hyl2] at hcst
        have hyb : m + 3 + 2 * ys.length + 2 ≤ a + cost (xs.take (i + 1)) ∧ a + cost (xs.take (i + 1)) ≤ 288230376151711744 := by
          have h1 := HI.out; have h2 := HX.out.2.2.2.2.2.2; omega
        obtain ⟨zs, hz⟩ := markAttrS_f ys (m + 1 + 1 + 1) (by omega) (by omega)
        obtain ⟨kz, hkz⟩ := hz.some
        have HZ := Aside0.mk (And.intro hkz hyr)
        have HYB := Aside0.mk hyb
        obtain ⟨Av, cv, ev⟩ := Kd.R_slice hyr
        have HEV := Aside0.mk ev
        rw [ev] at hx4
        clear hw4 hM4 hK4 hB4 hx3 hf3 HM3 HK3 HM2 HK2 hyr hz hkz hyl hyl2 hcst hctl hyb ev
        go_upto_region 11 with (first | (go_at_call 44; rw [← HEV.out]; refine (laws_markAttrS.calls kz _ (vs i) ys (m + 1 + 1 + 1) _ zs w0 w4 HK4.out.1 HZ.out.2 HZ.out.1).mono ?_; rintro e w5 ⟨rfl, _, hb5, hk5⟩; have HM5 := Aside0.mk (HM4.out.next HI2.out hk5); have HK5 := Aside0.mk (And.intro hb5 (HK4.out.2.then_ hk5 (fun k hk => .inl (HX.out.2.2.2.2.1 i k HI2.out hk.symm).1))); clear hb5 hk5))
        generalize hm5 : m + 1 + 1 + 1 + 2 * (ys.length : Int) = m5
        have hm5b : a ≤ m5 ∧ 0 ≤ m5 ∧ m5 ≤ 288230376151711744 ∧ m5 + 2 ≤ a + cost (xs.take (i + 1)) := by have h1 := HYB.out; have h2 := HI.out; omega
        obtain ⟨hm50, hm51, hm52, hm53⟩ := hm5b
        have HM5B := Aside0.mk (And.intro hm50 hm53)
        obtain ⟨t2, ht2⟩ := markText_f m5 (by omega) (by omega)
        obtain ⟨kt2, hkt2⟩ := ht2.some
        have HT2 := Aside0.mk hkt2
        clear ht2 hkt2 hx4 HM4 HK4 HZ hm50 hm53 hm5
        go_upto_region 12 with (first | (go_at_call 35; refine (laws_markText.calls kt2 m5 t2 _ HT2.out).mono ?_; rintro e w6 ⟨rfl, hb6⟩; have HM6 := Aside0.mk (HM5.out.under hb6); have HK6 := Aside0.mk (And.intro (below_step HK5.out.1 hb6) (HK5.out.2.below hb6)); obtain ⟨⟨u6, hx6⟩, hf6⟩ := HM6.out.cell HI2.out 4 (by omega); clear hb6))
        generalize hw7 : World.setCell w6 _ _ = w7
        obtain ⟨hM7, hK7, hB7⟩ := HM6.out.store (j := 4) HI2.out (by omega) (by omega) (.string t2) hw7.symm
        have HK7 := Aside0.mk (And.intro (hB7 _ _ HK6.out.1 HX.out.2.2.1) (HK6.out.2.then_ hK7 (fun k hk => .inl (by rw [hk]; exact HX.out.2.2.2.1))))
        have HM7 := Aside0.mk hM7
        obtain ⟨⟨u7, hx7⟩, hf7⟩ := hM7.cell HI2.out 5 (by omega)
        clear hw7 hM7 hK7 hB7 hx6 hf6 HM6 HK6 HM5 HK5
        go_upto_region 14 with (fail)
        generalize hw8 : World.setCell w7 _ _ = w8
        obtain ⟨hM8, hK8, hB8⟩ := HM7.out.store (j := 5) HI2.out (by omega) (by omega) (.int .i64 (m5 + 1)) hw8.symm
        have HK8 := Aside0.mk (And.intro (hB8 _ _ HK7.out.1 HX.out.2.2.1) (HK7.out.2.then_ hK8 (fun k hk => .inl (by rw [hk]; exact HX.out.2.2.2.1))))
        have HM8 := Aside0.mk hM8
        have HI3 := Aside0.mk (show i + 1 + (gk - 1) = xs.length + 1 ∧ 0 < gk by have := HI.out; have := HI2.out; omega)
        clear hw8 hM8 hK8 hB8 hx7 hf7 HM7 HK7
        go_wp2
        have hii : (i : Int) + 1 = ((i + 1 : Nat) : Int) := by omega
        go_roundg (gk - 1)
        case measure => have := HI3.out; omega
        case rel => exact ⟨i + 1, _, rfl, by rw [hii], ⟨HI3.out.1, HI2.out, by have := HM5B.out; omega, by have := HM5B.out; omega⟩, HM8, HK8⟩
      · have hd : decide ((i : Int) < (xs.length : Int)) = false := decide_eq_false (by omega)
        have hd2 : decide (i < xs.length) = false := decide_eq_false hlt
        clear hlt
        go_wp2
        go_ret
        have hi : i = xs.length := by have := HI.out; simp at hd2; omega
        refine ⟨m, rfl, HI.out.2.2.1, ?_, HK.out.1, HK.out.2⟩
        have := HI.out.2.2.2
        rwa [hi, List.take_length] at this
theorem markTree_calls (v : Value) (xs : List S52) (a : Int) (w0 w : World) (ok : Nat → Prop) (hB : Below w0.heap.size w0 w) (hS : Kd.S k52 52 w w0.heap.size ok v xs) (h0 : 0 ≤ a) (hb : a + cost xs < 2 ^ 58) :
    Calls Try.prog 13 #[.agg #[v], .int .i64 a] w (MarksEnd w0 w ok a (cost xs)) := by
  have hut := Try.underlying32
  obtain ⟨A, c, rfl⟩ := Kd.S_slice hS
  have hal : Below w.heap.size w (w.alloc (Obj.cells #[.slice A xs.length c] 32)) := (Below.refl _ _).alloc (Nat.le_refl _) _
  have HC := Aside0.mk (markNodeS_calls _ xs a w0 _ ok (below_step hB hal) (Kd.S_below hS hal) h0 hb)
  have HAL := Aside0.mk hal
  clear hB hS h0 hb hal
  go_enter Try.func13, Try.ntmps13
  go_wp2_with (first | (go_at_call 34; refine HC.out.mono ?_; rintro e w5 ⟨r, rfl, h1, h2, h3, h4⟩; have HE := Aside0.mk (And.intro h1 (And.intro h2 (And.intro h3 h4))); clear h1 h2 h3 h4))
  go_ret
  exact ⟨r, rfl, HE.out.1, HE.out.2.1, HE.out.2.2.1, (Kept.of_below HAL.out ok).then_ HE.out.2.2.2 (fun k hk => .inl hk)⟩
end Go.Proofs.Ytcjaakbmabhmdaa.Impl
