/- Part 18 of the proof: TokBeg, PtL. -/
import Derived.Test.YtnjnoabldjodcaaDoorA17
import Derived.Test.YtnjnoabldjodcaaDoorX0
import Derived.Test.YtnjnoabldjodcaaDoorA1
set_option linter.unusedVariables false
set_option linter.unusedSimpArgs false
namespace Go.Proofs.YtnjnoabldjodcaaDoor.Tok
open Go.RowKit Go.Proofs.YtnjnoabldjodcaaDoorW.PrintWords Go.Proofs.YtnjnoabldjodcaaDoorW.PrintLast Go.Proofs.YtnjnoabldjodcaaDoorW.PrintMore Go.Proofs.YtnjnoabldjodcaaDoor.PFnExactTokens
set_option maxRecDepth 100000 in
theorem rest_calls (s : ByteArray) (b i : Nat) (hi : i ≤ s.size) (x2 x3 x4 : Value) (w : World) (hb : Sc w b s i x2 x3 x4) :
    Calls Tryd.prog 36 #[.pointer (some ⟨b, 0, none⟩)] w fun e w' => e = .returned (.string (s.extract i s.size)) ∧ ∃ n, w' = w.drewN n := by
  have c0 := hb.c0
  have c1 := hb.c1
  have hii : (i : Int) ≤ (s.size : Int) := by omega
  clear hb
  go_enter Tryd.func36, Tryd.ntmps36
  go_wp2
  go_quiet (fail)
  go_wp2
  go_ret
  exact ⟨rfl, _, rfl⟩
theorem B_rest (s : ByteArray) (i : Nat) : B (s.extract i s.size) = (B s).drop i := by
  rw [B_extract, List.take_of_length_le]
  rw [List.length_drop, B_length]
  exact Nat.le_refl _
theorem rest_size (s : ByteArray) (i : Nat) : (s.extract i s.size).size = s.size - i := by rw [← B_length, B_rest, List.length_drop, B_length]
theorem part_drop (L : Bs) (i a b : Nat) : part (L.drop i) a b = part L (i + a) (i + b) := by
  unfold part
  rw [List.drop_drop, show i + b - (i + a) = b - a from by omega]
theorem doc_drop (L : Bs) (i : Nat) (hi : i ≤ L.length) : isDoc (L.drop i) 0 = isDoc L i := by
  unfold isDoc
  rw [part_drop, List.length_drop, List.getElem?_drop, Nat.zero_add, Nat.zero_add, Nat.zero_add]
  congr 1
  rw [decide_eq_decide]
  omega
theorem beg_drop (L : Bs) (i : Nat) (hi : i ≤ L.length) : beg (L.drop i) 0 = beg L i := by
  unfold beg
  rw [doc_drop L i hi, List.getElem?_drop, List.getElem?_drop, List.getElem?_drop, List.drop_zero, Nat.add_zero, Nat.zero_add, Nat.zero_add]
def begB (l4 doc : Bool) (n : Nat) (b0 b1 b2 : Int) : Nat :=
  if n < 2 then 0 else if b0 ≠ 60 then 0 else if letter b1 = true then 2 else if l4 = true then 4 else if doc = true then 5 else if b1 = 33 ∨ b1 = 63 then 6 else if b1 ≠ 47 then 0 else if n = 2 then 0 else if letter b2 = true then 3 else if b2 = 62 then 7 else 6
theorem beg_is (r : ByteArray) : beg (B r) 0 = begB (pre [60, 33, 45, 45] (B r)) (isDoc (B r) 0) r.size (bt r 0) (bt r 1) (bt r 2) := by
  unfold beg begB
  rcases Nat.lt_or_ge r.size 2 with h | h
  · rw [if_pos h]
    rw [show (B r)[0 + 1]? = none from List.getElem?_eq_none (by rw [B_length]; omega)]
    split <;> simp_all
  · rw [if_neg (by omega)]
    have e0 := B_get r 0 (by omega)
    have e1 := B_get r 1 (by omega)
    rw [e0, show (B r)[0 + 1]? = some (bt r 1) from e1]
    simp only [List.drop_zero]
    rcases Nat.lt_or_ge 2 r.size with h2 | h2
    · have e2 := B_get r 2 h2
      rw [show (B r)[0 + 2]? = some (bt r 2) from e2, if_neg (show ¬ r.size = 2 by omega)]
      rfl
    · rw [show (B r)[0 + 2]? = none from List.getElem?_eq_none (by rw [B_length]; omega), if_pos (show r.size = 2 by omega)]
      rfl
theorem ret_int {k : IntKind} {a b : Int} (h : a = b) : Ending.returned (.int k a) = .returned (.int k b) := by rw [h]
set_option maxHeartbeats 8000000 in
set_option maxRecDepth 100000 in
theorem begins_calls (r : ByteArray) (hr : r.size < 2 ^ 40) (w : World) :
    Calls Tryd.prog 42 #[.string r] w fun e w' => e = .returned (.int .i64 (beg (B r) 0 : Nat)) ∧ Below w.heap.size w w' := by
  obtain ⟨R, hR⟩ : ∃ R, R = beg (B r) 0 := ⟨_, rfl⟩
  rw [← hR]
  have HB := Aside0.mk (hR.trans (beg_is r))
  clear hR
  have hx0 := bt_at r 0
  have hx1 := bt_at r 1
  have hx2 := bt_at r 2
  have HS := Aside0.mk hr
  clear hr
  simp only [Int.toNat_zero, Int.toNat_one, show (2 : Int).toNat = 2 from rfl] at hx0 hx1 hx2
  obtain ⟨l4, hl4⟩ : ∃ l4, l4 = pre [60, 33, 45, 45] (B r) := ⟨_, rfl⟩
  obtain ⟨doc, hdoc⟩ : ∃ doc, doc = isDoc (B r) 0 := ⟨_, rfl⟩
  obtain ⟨b0, hb0⟩ : ∃ b0, b0 = bt r 0 := ⟨_, rfl⟩
  obtain ⟨b1, hb1⟩ : ∃ b1, b1 = bt r 1 := ⟨_, rfl⟩
  obtain ⟨b2, hb2⟩ : ∃ b2, b2 = bt r 2 := ⟨_, rfl⟩
  have HL4 := Aside0.mk hl4
  have HDOC := Aside0.mk (show 9 ≤ r.size → doc = ((b1 == 33) && (S (low (B (r.extract 2 9)))).toList == (⟨#[100, 111, 99, 116, 121, 112, 101]⟩ : ByteArray).toList) from fun h9 => by
    rw [hdoc, hb1]
    unfold isDoc
    rw [decide_eq_true (show 0 + 9 ≤ (B r).length by rw [B_length]; exact h9), Bool.true_and, show (B r)[0 + 1]? = some (bt r 1) from B_get r 1 (by omega)]
    rw [Bool.eq_iff_iff]
    simp only [Bool.and_eq_true, decide_eq_true_eq, beq_iff_eq, Option.some.injEq, toList_eq]
    rw [B_S (show ∀ b ∈ low (B (r.extract 2 9)), byte b from fun b hb => by obtain ⟨x, hx, rfl⟩ := List.mem_map.1 hb; exact lowB_byte (B_byte _ x hx)), B_extract]
    exact Iff.rfl)
  have HDOC2 := Aside0.mk (show ¬ 9 ≤ r.size → doc = false from fun h9 => by
    rw [hdoc]
    unfold isDoc
    rw [decide_eq_false (show ¬ 0 + 9 ≤ (B r).length by rw [B_length]; omega), Bool.false_and])
  rw [← hl4, ← hdoc, ← hb0, ← hb1, ← hb2] at HB
  rw [← hb0] at hx0
  rw [← hb1] at hx1
  rw [← hb2] at hx2
  clear hl4 hdoc hb0 hb1 hb2
  have HX2 := Aside0.mk hx2
  --LEAVES
  by_cases h2 : r.size < 2
  · have hd1 : decide (r.size < 2) = true := decide_eq_true h2
    have hd2 : decide ((r.size : Int) < 2) = true := decide_eq_true (by omega)
    have H2 := Aside0.mk h2
    clear h2 hx0 hx1 hx2
    have HV := Aside0.mk (show begB l4 doc r.size b0 b1 b2 = 0 by unfold begB; simp [H2.out, show letter 63 = false from by decide, show letter 47 = false from by decide, show letter 33 = false from by decide, show letter 62 = false from by decide])
    go_enter Tryd.func42, Tryd.ntmps42
    go_wp2
    go_ret
    exact ⟨ret_int (by rw [HB.out, HV.out]; rfl), Below.refl _ _⟩
  have HN2 := Aside0.mk h2
  have hd1 : decide (r.size < 2) = false := decide_eq_false h2
  have hd2 : decide ((r.size : Int) < 2) = false := decide_eq_false (by omega)
  have hs2 : (2 : Int) ≤ (r.size : Int) := by omega
  have hs2n : 1 < r.size := by omega
  have hs1n : 0 < r.size := by omega
  clear h2
  rcases h60 : (b0 == 60) with _ | _
  · have hn : (b0 != 60) = true := by rw [bne, h60]; rfl
    have H60 := Aside0.mk (beq_eq_false_iff_ne.1 h60)
    have HV := Aside0.mk (show begB l4 doc r.size b0 b1 b2 = 0 by unfold begB; simp [HN2.out, H60.out, show letter 63 = false from by decide, show letter 47 = false from by decide, show letter 33 = false from by decide, show letter 62 = false from by decide])
    go_enter Tryd.func42, Tryd.ntmps42
    go_wp2
    go_ret
    exact ⟨ret_int (by rw [HB.out, HV.out]; rfl), Below.refl _ _⟩
  have hn60 : (b0 != 60) = false := by rw [bne, h60]; rfl
  have H60 := Aside0.mk (beq_iff_eq.1 h60)
  clear h60 hx2
  rcases hlt1 : letter b1 with _ | _
  rotate_left
  · have HLT1 := Aside0.mk hlt1
    clear hlt1
    have HV := Aside0.mk (show begB l4 doc r.size b0 b1 b2 = 2 by unfold begB; simp [HN2.out, H60.out, HLT1.out, show letter 63 = false from by decide, show letter 47 = false from by decide, show letter 33 = false from by decide, show letter 62 = false from by decide])
    go_enter Tryd.func42, Tryd.ntmps42
    go_wp2_with ((go_at_call 65; ((with_reducible refine (iletter_calls b1 _).mono ?_); rintro e w8 ⟨rfl, rfl⟩; rw [HLT1.out])))
    go_ret
    exact ⟨ret_int (by rw [HB.out, HV.out]; rfl), Below.refl _ _⟩
  have HLT1 := Aside0.mk hlt1
  clear hlt1
  rcases hl : l4 with _ | _
  rotate_left
  · have HL := Aside0.mk hl
    clear hl
    rw [HL.out] at HB
    have HV := Aside0.mk (show begB true doc r.size b0 b1 b2 = 4 by unfold begB; simp [HN2.out, H60.out, HLT1.out])
    go_enter Tryd.func42, Tryd.ntmps42
    go_wp2_with (first | (go_at_call 65; ((with_reducible refine (iletter_calls b1 _).mono ?_); rintro e w8 ⟨rfl, rfl⟩; rw [HLT1.out])) | (go_at_call 37; refine (prefix_calls r ⟨#[60, 33, 45, 45]⟩ _).mono ?_; rintro e w8 ⟨rfl, rfl⟩; rw [show B ⟨#[60, 33, 45, 45]⟩ = [60, 33, 45, 45] from by decide, ← HL4.out, HL.out]))
    go_ret
    exact ⟨ret_int (by rw [HB.out, HV.out]; rfl), Below.refl _ _⟩
  have HL := Aside0.mk hl
  clear hl
  rcases h33 : (b1 == 33) with _ | _
  · have H33 := Aside0.mk (beq_eq_false_iff_ne.1 h33)
    by_cases h9 : 9 ≤ r.size
    · have H9 := Aside0.mk h9
      have hd9 : decide (9 ≤ r.size) = true := decide_eq_true h9
      have hd9i : decide ((9 : Int) ≤ (r.size : Int)) = true := decide_eq_true (by omega)
      have HDF := Aside0.mk (show doc = false by rw [HDOC.out h9, h33]; rfl)
      clear h9
      rcases h63 : (b1 == 63) with _ | _
      rotate_left
      · have H63 := Aside0.mk (beq_iff_eq.1 h63)
        have HV := Aside0.mk (show begB l4 doc r.size b0 b1 b2 = 6 by unfold begB; simp [HN2.out, H60.out, HLT1.out, HL.out, HDF.out, H63.out, show letter 63 = false from by decide, show letter 47 = false from by decide, show letter 33 = false from by decide, show letter 62 = false from by decide])
        go_enter Tryd.func42, Tryd.ntmps42
        go_wp2_with (first | (go_at_call 65; ((with_reducible refine (iletter_calls b1 _).mono ?_); rintro e w8 ⟨rfl, rfl⟩; rw [HLT1.out])) | (go_at_call 37; refine (prefix_calls r ⟨#[60, 33, 45, 45]⟩ _).mono ?_; rintro e w8 ⟨rfl, rfl⟩; rw [show B ⟨#[60, 33, 45, 45]⟩ = [60, 33, 45, 45] from by decide, ← HL4.out, HL.out]))
        go_ret
        exact ⟨ret_int (by rw [HB.out, HV.out]; rfl), Below.refl _ _⟩
      have H63 := Aside0.mk (beq_eq_false_iff_ne.1 h63)
      rcases h47 : (b1 == 47) with _ | _
      · have H47 := Aside0.mk (beq_eq_false_iff_ne.1 h47)
        have hn47 : (b1 != 47) = true := by rw [bne, h47]; rfl
        have HV := Aside0.mk (show begB l4 doc r.size b0 b1 b2 = 0 by unfold begB; simp [HN2.out, H60.out, HLT1.out, HL.out, HDF.out, H33.out, H63.out, H47.out, show letter 63 = false from by decide, show letter 47 = false from by decide, show letter 33 = false from by decide, show letter 62 = false from by decide])
        go_enter Tryd.func42, Tryd.ntmps42
        go_wp2_with (first | (go_at_call 65; ((with_reducible refine (iletter_calls b1 _).mono ?_); rintro e w8 ⟨rfl, rfl⟩; rw [HLT1.out])) | (go_at_call 37; refine (prefix_calls r ⟨#[60, 33, 45, 45]⟩ _).mono ?_; rintro e w8 ⟨rfl, rfl⟩; rw [show B ⟨#[60, 33, 45, 45]⟩ = [60, 33, 45, 45] from by decide, ← HL4.out, HL.out]))
        go_ret
        exact ⟨ret_int (by rw [HB.out, HV.out]; rfl), Below.refl _ _⟩
      have H47 := Aside0.mk (beq_iff_eq.1 h47)
      have hn47 : (b1 != 47) = false := by rw [bne, h47]; rfl
      have HZ2 := Aside0.mk (show ¬ r.size = 2 by have := H9.out; omega)
      have hdz : (r.size == 2) = false := beq_eq_false_iff_ne.2 HZ2.out
      have hdz2 : ((r.size : Int) == 2) = false := by rw [beq_eq_false_iff_ne]; have := HZ2.out; omega
      have hs3 : 2 < r.size := by have := HZ2.out; omega
      have hs3i : (2 : Int) < (r.size : Int) := by omega
      have hx2 := HX2.out
      rcases hlt2 : letter b2 with _ | _
      rotate_left
      · have HLT2 := Aside0.mk hlt2
        clear hlt2
        have HV := Aside0.mk (show begB l4 doc r.size b0 b1 b2 = 3 by unfold begB; simp [HN2.out, H60.out, HLT1.out, HL.out, HDF.out, H47.out, HZ2.out, HLT2.out, show letter 63 = false from by decide, show letter 47 = false from by decide, show letter 33 = false from by decide, show letter 62 = false from by decide])
        go_enter Tryd.func42, Tryd.ntmps42
        go_wp2_with (first | (go_at_call 65; ((with_reducible refine (iletter_calls b1 _).mono ?_); rintro e w8 ⟨rfl, rfl⟩; rw [HLT1.out])) | (go_at_call 65; ((with_reducible refine (iletter_calls b2 _).mono ?_); rintro e w8 ⟨rfl, rfl⟩; rw [HLT2.out])) | (go_at_call 37; refine (prefix_calls r ⟨#[60, 33, 45, 45]⟩ _).mono ?_; rintro e w8 ⟨rfl, rfl⟩; rw [show B ⟨#[60, 33, 45, 45]⟩ = [60, 33, 45, 45] from by decide, ← HL4.out, HL.out]))
        go_ret
        exact ⟨ret_int (by rw [HB.out, HV.out]; rfl), Below.refl _ _⟩
      have HLT2 := Aside0.mk hlt2
      clear hlt2
      rcases h62 : (b2 == 62) with _ | _
      · have H62 := Aside0.mk (beq_eq_false_iff_ne.1 h62)
        have HV := Aside0.mk (show begB l4 doc r.size b0 b1 b2 = 6 by unfold begB; simp [HN2.out, H60.out, HLT1.out, HL.out, HDF.out, H47.out, HZ2.out, HLT2.out, H62.out, show letter 63 = false from by decide, show letter 47 = false from by decide, show letter 33 = false from by decide, show letter 62 = false from by decide])
        go_enter Tryd.func42, Tryd.ntmps42
        go_wp2_with (first | (go_at_call 65; ((with_reducible refine (iletter_calls b1 _).mono ?_); rintro e w8 ⟨rfl, rfl⟩; rw [HLT1.out])) | (go_at_call 65; ((with_reducible refine (iletter_calls b2 _).mono ?_); rintro e w8 ⟨rfl, rfl⟩; rw [HLT2.out])) | (go_at_call 37; refine (prefix_calls r ⟨#[60, 33, 45, 45]⟩ _).mono ?_; rintro e w8 ⟨rfl, rfl⟩; rw [show B ⟨#[60, 33, 45, 45]⟩ = [60, 33, 45, 45] from by decide, ← HL4.out, HL.out]))
        go_ret
        exact ⟨ret_int (by rw [HB.out, HV.out]; rfl), Below.refl _ _⟩
      · have H62 := Aside0.mk (beq_iff_eq.1 h62)
        have HV := Aside0.mk (show begB l4 doc r.size b0 b1 b2 = 7 by unfold begB; simp [HN2.out, H60.out, HLT1.out, HL.out, HDF.out, H47.out, HZ2.out, HLT2.out, H62.out, show letter 63 = false from by decide, show letter 47 = false from by decide, show letter 33 = false from by decide, show letter 62 = false from by decide])
        go_enter Tryd.func42, Tryd.ntmps42
        go_wp2_with (first | (go_at_call 65; ((with_reducible refine (iletter_calls b1 _).mono ?_); rintro e w8 ⟨rfl, rfl⟩; rw [HLT1.out])) | (go_at_call 65; ((with_reducible refine (iletter_calls b2 _).mono ?_); rintro e w8 ⟨rfl, rfl⟩; rw [HLT2.out])) | (go_at_call 37; refine (prefix_calls r ⟨#[60, 33, 45, 45]⟩ _).mono ?_; rintro e w8 ⟨rfl, rfl⟩; rw [show B ⟨#[60, 33, 45, 45]⟩ = [60, 33, 45, 45] from by decide, ← HL4.out, HL.out]))
        go_ret
        exact ⟨ret_int (by rw [HB.out, HV.out]; rfl), Below.refl _ _⟩
    · have H9 := Aside0.mk h9
      have hd9 : decide (9 ≤ r.size) = false := decide_eq_false h9
      have hd9i : decide ((9 : Int) ≤ (r.size : Int)) = false := decide_eq_false (by omega)
      have HDF := Aside0.mk (show doc = false from HDOC2.out h9)
      clear h9
      rcases h63 : (b1 == 63) with _ | _
      rotate_left
      · have H63 := Aside0.mk (beq_iff_eq.1 h63)
        have HV := Aside0.mk (show begB l4 doc r.size b0 b1 b2 = 6 by unfold begB; simp [HN2.out, H60.out, HLT1.out, HL.out, HDF.out, H63.out, show letter 63 = false from by decide, show letter 47 = false from by decide, show letter 33 = false from by decide, show letter 62 = false from by decide])
        go_enter Tryd.func42, Tryd.ntmps42
        go_wp2_with (first | (go_at_call 65; ((with_reducible refine (iletter_calls b1 _).mono ?_); rintro e w8 ⟨rfl, rfl⟩; rw [HLT1.out])) | (go_at_call 37; refine (prefix_calls r ⟨#[60, 33, 45, 45]⟩ _).mono ?_; rintro e w8 ⟨rfl, rfl⟩; rw [show B ⟨#[60, 33, 45, 45]⟩ = [60, 33, 45, 45] from by decide, ← HL4.out, HL.out]))
        go_ret
        exact ⟨ret_int (by rw [HB.out, HV.out]; rfl), Below.refl _ _⟩
      have H63 := Aside0.mk (beq_eq_false_iff_ne.1 h63)
      rcases h47 : (b1 == 47) with _ | _
      · have H47 := Aside0.mk (beq_eq_false_iff_ne.1 h47)
        have hn47 : (b1 != 47) = true := by rw [bne, h47]; rfl
        have HV := Aside0.mk (show begB l4 doc r.size b0 b1 b2 = 0 by unfold begB; simp [HN2.out, H60.out, HLT1.out, HL.out, HDF.out, H33.out, H63.out, H47.out, show letter 63 = false from by decide, show letter 47 = false from by decide, show letter 33 = false from by decide, show letter 62 = false from by decide])
        go_enter Tryd.func42, Tryd.ntmps42
        go_wp2_with (first | (go_at_call 65; ((with_reducible refine (iletter_calls b1 _).mono ?_); rintro e w8 ⟨rfl, rfl⟩; rw [HLT1.out])) | (go_at_call 37; refine (prefix_calls r ⟨#[60, 33, 45, 45]⟩ _).mono ?_; rintro e w8 ⟨rfl, rfl⟩; rw [show B ⟨#[60, 33, 45, 45]⟩ = [60, 33, 45, 45] from by decide, ← HL4.out, HL.out]))
        go_ret
        exact ⟨ret_int (by rw [HB.out, HV.out]; rfl), Below.refl _ _⟩
      have H47 := Aside0.mk (beq_iff_eq.1 h47)
      have hn47 : (b1 != 47) = false := by rw [bne, h47]; rfl
      by_cases hsz2 : r.size = 2
      · have HZ2 := Aside0.mk hsz2
        have hdz : (r.size == 2) = true := beq_iff_eq.2 hsz2
        have hdz2 : ((r.size : Int) == 2) = true := by rw [beq_iff_eq]; omega
        clear hsz2
        have HV := Aside0.mk (show begB l4 doc r.size b0 b1 b2 = 0 by unfold begB; simp [HN2.out, H60.out, HLT1.out, HL.out, HDF.out, H47.out, HZ2.out, show letter 63 = false from by decide, show letter 47 = false from by decide, show letter 33 = false from by decide, show letter 62 = false from by decide])
        go_enter Tryd.func42, Tryd.ntmps42
        go_wp2_with (first | (go_at_call 65; ((with_reducible refine (iletter_calls b1 _).mono ?_); rintro e w8 ⟨rfl, rfl⟩; rw [HLT1.out])) | (go_at_call 37; refine (prefix_calls r ⟨#[60, 33, 45, 45]⟩ _).mono ?_; rintro e w8 ⟨rfl, rfl⟩; rw [show B ⟨#[60, 33, 45, 45]⟩ = [60, 33, 45, 45] from by decide, ← HL4.out, HL.out]))
        go_ret
        exact ⟨ret_int (by rw [HB.out, HV.out]; rfl), Below.refl _ _⟩
      have HZ2 := Aside0.mk hsz2
      have hdz : (r.size == 2) = false := beq_eq_false_iff_ne.2 HZ2.out
      have hdz2 : ((r.size : Int) == 2) = false := by rw [beq_eq_false_iff_ne]; have := HZ2.out; omega
      have hs3 : 2 < r.size := by have := HZ2.out; omega
      have hs3i : (2 : Int) < (r.size : Int) := by omega
      have hx2 := HX2.out
      rcases hlt2 : letter b2 with _ | _
      rotate_left
      · have HLT2 := Aside0.mk hlt2
        clear hlt2
        have HV := Aside0.mk (show begB l4 doc r.size b0 b1 b2 = 3 by unfold begB; simp [HN2.out, H60.out, HLT1.out, HL.out, HDF.out, H47.out, HZ2.out, HLT2.out, show letter 63 = false from by decide, show letter 47 = false from by decide, show letter 33 = false from by decide, show letter 62 = false from by decide])
        go_enter Tryd.func42, Tryd.ntmps42
        go_wp2_with (first | (go_at_call 65; ((with_reducible refine (iletter_calls b1 _).mono ?_); rintro e w8 ⟨rfl, rfl⟩; rw [HLT1.out])) | (go_at_call 65; ((with_reducible refine (iletter_calls b2 _).mono ?_); rintro e w8 ⟨rfl, rfl⟩; rw [HLT2.out])) | (go_at_call 37; refine (prefix_calls r ⟨#[60, 33, 45, 45]⟩ _).mono ?_; rintro e w8 ⟨rfl, rfl⟩; rw [show B ⟨#[60, 33, 45, 45]⟩ = [60, 33, 45, 45] from by decide, ← HL4.out, HL.out]))
        go_ret
        exact ⟨ret_int (by rw [HB.out, HV.out]; rfl), Below.refl _ _⟩
      have HLT2 := Aside0.mk hlt2
      clear hlt2
      rcases h62 : (b2 == 62) with _ | _
      · have H62 := Aside0.mk (beq_eq_false_iff_ne.1 h62)
        have HV := Aside0.mk (show begB l4 doc r.size b0 b1 b2 = 6 by unfold begB; simp [HN2.out, H60.out, HLT1.out, HL.out, HDF.out, H47.out, HZ2.out, HLT2.out, H62.out, show letter 63 = false from by decide, show letter 47 = false from by decide, show letter 33 = false from by decide, show letter 62 = false from by decide])
        go_enter Tryd.func42, Tryd.ntmps42
        go_wp2_with (first | (go_at_call 65; ((with_reducible refine (iletter_calls b1 _).mono ?_); rintro e w8 ⟨rfl, rfl⟩; rw [HLT1.out])) | (go_at_call 65; ((with_reducible refine (iletter_calls b2 _).mono ?_); rintro e w8 ⟨rfl, rfl⟩; rw [HLT2.out])) | (go_at_call 37; refine (prefix_calls r ⟨#[60, 33, 45, 45]⟩ _).mono ?_; rintro e w8 ⟨rfl, rfl⟩; rw [show B ⟨#[60, 33, 45, 45]⟩ = [60, 33, 45, 45] from by decide, ← HL4.out, HL.out]))
        go_ret
        exact ⟨ret_int (by rw [HB.out, HV.out]; rfl), Below.refl _ _⟩
      · have H62 := Aside0.mk (beq_iff_eq.1 h62)
        have HV := Aside0.mk (show begB l4 doc r.size b0 b1 b2 = 7 by unfold begB; simp [HN2.out, H60.out, HLT1.out, HL.out, HDF.out, H47.out, HZ2.out, HLT2.out, H62.out, show letter 63 = false from by decide, show letter 47 = false from by decide, show letter 33 = false from by decide, show letter 62 = false from by decide])
        go_enter Tryd.func42, Tryd.ntmps42
        go_wp2_with (first | (go_at_call 65; ((with_reducible refine (iletter_calls b1 _).mono ?_); rintro e w8 ⟨rfl, rfl⟩; rw [HLT1.out])) | (go_at_call 65; ((with_reducible refine (iletter_calls b2 _).mono ?_); rintro e w8 ⟨rfl, rfl⟩; rw [HLT2.out])) | (go_at_call 37; refine (prefix_calls r ⟨#[60, 33, 45, 45]⟩ _).mono ?_; rintro e w8 ⟨rfl, rfl⟩; rw [show B ⟨#[60, 33, 45, 45]⟩ = [60, 33, 45, 45] from by decide, ← HL4.out, HL.out]))
        go_ret
        exact ⟨ret_int (by rw [HB.out, HV.out]; rfl), Below.refl _ _⟩
  · have H33 := Aside0.mk (beq_iff_eq.1 h33)
    by_cases h9 : 9 ≤ r.size
    · have H9 := Aside0.mk h9
      have hd9 : decide (9 ≤ r.size) = true := decide_eq_true h9
      have hd9i : decide ((9 : Int) ≤ (r.size : Int)) = true := decide_eq_true (by omega)
      have hs9 : (9 : Int) ≤ (r.size : Int) := by omega
      rcases hcmp : ((S (low (B (r.extract 2 9)))).toList == (⟨#[100, 111, 99, 116, 121, 112, 101]⟩ : ByteArray).toList) with _ | _
      · have HDF := Aside0.mk (show doc = false by rw [HDOC.out h9, h33, hcmp]; rfl)
        clear h9
        have hcmp2 : ((S (low (B (r.extract 2 9)))).toList == [100, 111, 99, 116, 121, 112, 101]) = false := by rw [← hcmp, toList_data ⟨#[100, 111, 99, 116, 121, 112, 101]⟩]
        have HV := Aside0.mk (show begB l4 doc r.size b0 b1 b2 = 6 by unfold begB; simp [HN2.out, H60.out, HLT1.out, HL.out, HDF.out, H33.out, show letter 63 = false from by decide, show letter 47 = false from by decide, show letter 33 = false from by decide, show letter 62 = false from by decide])
        go_enter Tryd.func42, Tryd.ntmps42
        go_wp2_with (first | (go_at_call 65; ((with_reducible refine (iletter_calls b1 _).mono ?_); rintro e w8 ⟨rfl, rfl⟩; rw [HLT1.out])) | (go_at_call 37; refine (prefix_calls r ⟨#[60, 33, 45, 45]⟩ _).mono ?_; rintro e w8 ⟨rfl, rfl⟩; rw [show B ⟨#[60, 33, 45, 45]⟩ = [60, 33, 45, 45] from by decide, ← HL4.out, HL.out]) | (go_at_call 38; refine (lower_calls (r.extract 2 9) (by rw [← B_length, B_extract, List.length_take, List.length_drop, B_length]; have := HS.out; omega) _).mono ?_; rintro e w9 ⟨rfl, hb9⟩; have HB9 := Aside0.mk hb9; clear hb9))
        go_ret
        exact ⟨ret_int (by rw [HB.out, HV.out]; rfl), HB9.out⟩
      · have HDF := Aside0.mk (show doc = true by rw [HDOC.out h9, h33, hcmp]; rfl)
        clear h9
        have hcmp2 : ((S (low (B (r.extract 2 9)))).toList == [100, 111, 99, 116, 121, 112, 101]) = true := by rw [← hcmp, toList_data ⟨#[100, 111, 99, 116, 121, 112, 101]⟩]
        have HV := Aside0.mk (show begB l4 doc r.size b0 b1 b2 = 5 by unfold begB; simp [HN2.out, H60.out, HLT1.out, HL.out, HDF.out, show letter 63 = false from by decide, show letter 47 = false from by decide, show letter 33 = false from by decide, show letter 62 = false from by decide])
        go_enter Tryd.func42, Tryd.ntmps42
        go_wp2_with (first | (go_at_call 65; ((with_reducible refine (iletter_calls b1 _).mono ?_); rintro e w8 ⟨rfl, rfl⟩; rw [HLT1.out])) | (go_at_call 37; refine (prefix_calls r ⟨#[60, 33, 45, 45]⟩ _).mono ?_; rintro e w8 ⟨rfl, rfl⟩; rw [show B ⟨#[60, 33, 45, 45]⟩ = [60, 33, 45, 45] from by decide, ← HL4.out, HL.out]) | (go_at_call 38; refine (lower_calls (r.extract 2 9) (by rw [← B_length, B_extract, List.length_take, List.length_drop, B_length]; have := HS.out; omega) _).mono ?_; rintro e w9 ⟨rfl, hb9⟩; have HB9 := Aside0.mk hb9; clear hb9))
        go_ret
        exact ⟨ret_int (by rw [HB.out, HV.out]; rfl), HB9.out⟩
    · have H9 := Aside0.mk h9
      have hd9 : decide (9 ≤ r.size) = false := decide_eq_false h9
      have hd9i : decide ((9 : Int) ≤ (r.size : Int)) = false := decide_eq_false (by omega)
      have HDF := Aside0.mk (show doc = false from HDOC2.out h9)
      clear h9
      have HV := Aside0.mk (show begB l4 doc r.size b0 b1 b2 = 6 by unfold begB; simp [HN2.out, H60.out, HLT1.out, HL.out, HDF.out, H33.out, show letter 63 = false from by decide, show letter 47 = false from by decide, show letter 33 = false from by decide, show letter 62 = false from by decide])
      go_enter Tryd.func42, Tryd.ntmps42
      go_wp2_with (first | (go_at_call 65; ((with_reducible refine (iletter_calls b1 _).mono ?_); rintro e w8 ⟨rfl, rfl⟩; rw [HLT1.out])) | (go_at_call 37; refine (prefix_calls r ⟨#[60, 33, 45, 45]⟩ _).mono ?_; rintro e w8 ⟨rfl, rfl⟩; rw [show B ⟨#[60, 33, 45, 45]⟩ = [60, 33, 45, 45] from by decide, ← HL4.out, HL.out]))
      go_ret
      exact ⟨ret_int (by rw [HB.out, HV.out]; rfl), Below.refl _ _⟩
end Go.Proofs.YtnjnoabldjodcaaDoor.Tok
namespace Go.Proofs.YtnjnoabldjodcaaDoor.PFnExactTokens
open Go.RowKit Go.Proofs.YtnjnoabldjodcaaDoorW.PrintWords Go.Proofs.YtnjnoabldjodcaaDoorW.PrintLast Go.Proofs.YtnjnoabldjodcaaDoorW.PrintMore
attribute [local go_sem] max2_int min2_int max_two min_two max_three min_three max_four min_four
set_option linter.unusedVariables false
set_option linter.unusedSimpArgs false
def laws_eqAttr.f (a0_0 : ByteArray) (a0_1 : ByteArray) (a1_0 : ByteArray) (a1_1 : ByteArray) : Option (Bool) := if a0_0.toList = a1_0.toList then (if a0_1.toList = a1_1.toList then (some true) else (some false)) else (some false)
set_option maxHeartbeats 8000000 in
set_option maxRecDepth 100000 in
theorem laws_eqAttr.calls (a0_0 : ByteArray) (a0_1 : ByteArray) (a1_0 : ByteArray) (a1_1 : ByteArray) (r : Bool) (w : World) (h : laws_eqAttr.f a0_0 a0_1 a1_0 a1_1 = some r) :
    Calls Tryd.prog 75 #[.agg #[.string a0_0, .string a0_1], .agg #[.string a1_0, .string a1_1]] w fun e w' => e = .returned (.bool r) ∧ Below w.heap.size w w' := by
  have hu62 := Tryd.underlying62
  have HB := am (Below.refl w.heap.size w)
  have H := h
  clear h
  unfold laws_eqAttr.f at H
  by_cases c3 : a0_0.toList = a1_0.toList
  · rw [if_pos c3] at H
    have c3b0 : (a0_0.toList == a1_0.toList) = true := beq_iff_eq.mpr c3
    have c3b1 : (a0_0.toList != a1_0.toList) = false := bne_eq_false_iff_eq.mpr c3
    clear c3
    by_cases c4 : a0_1.toList = a1_1.toList
    · rw [if_pos c4] at H
      have c4b0 : (a0_1.toList == a1_1.toList) = true := beq_iff_eq.mpr c4
      have c4b1 : (a0_1.toList != a1_1.toList) = false := bne_eq_false_iff_eq.mpr c4
      clear c4
      obtain rfl := Option.some.inj H
      go_enter Tryd.func75, Tryd.ntmps75
      go_wp2_with (first | ((with_reducible refine gate_dst (N := 2) rfl ?_); refine box_event ?hg (N := 2) ?hd (cs := #[.string a0_0, .string a0_1]) (t := 62) ?hr ?_; (case hd => rfl); (case hg => rfl); (case hr => (go_simp; done)); intro gb354 hg w5 hbox hb; have n0_ := am (below_step HB.out hb); have n1_ := am hbox; have n2_ := am ((by rw [hg]; exact (below_size HB.out) : w.heap.size ≤ gb354)); have n3_ := am ((by rw [hg]; exact (below_size HB.out) : w.heap.size ≤ gb354)); clear HB; have HB := n0_; have BK354 := n1_; have GW354 := n2_; have GE354 := n3_; clear n0_ n1_ n2_ n3_; clear hb hbox hg) | ((with_reducible refine gate_dst (N := 3) rfl ?_); refine box_event ?hg (N := 3) ?hd (cs := #[.string a1_0, .string a1_1]) (t := 62) ?hr ?_; (case hd => rfl); (case hg => rfl); (case hr => (go_simp; done)); intro gb355 hg w6 hbox hb; have n0_ := am (blk_below (g := gb354) (o := .cells #[.string a0_0, .string a0_1] 62 (0, 0)) BK354.out hb); have n1_ := am (below_step HB.out hb); have n2_ := am hbox; have n3_ := am ((by rw [hg]; exact (below_size HB.out) : w.heap.size ≤ gb355)); have n4_ := am ((by rw [hg]; exact (below_size HB.out) : w.heap.size ≤ gb355)); have n5_ := am ((by rw [hg]; exact Nat.ne_of_lt (blk_lt (g := gb354) (o := .cells #[.string a0_0, .string a0_1] 62 (0, 0)) BK354.out) : gb354 ≠ gb355)); have n6_ := am ((by rw [hg]; exact Nat.ne_of_gt (blk_lt (g := gb354) (o := .cells #[.string a0_0, .string a0_1] 62 (0, 0)) BK354.out) : gb355 ≠ gb354)); clear BK354; clear HB; have BK354 := n0_; have HB := n1_; have BK355 := n2_; have GW355 := n3_; have GE355 := n4_; have NB354_355 := n5_; have NB355_354 := n6_; clear n0_ n1_ n2_ n3_ n4_ n5_ n6_; clear hb hbox hg; have hnb7 := NB354_355.out; have hnc7 := NB355_354.out; have hcz8_0 : w6.cell? ⟨gb354, 0, none⟩ = some (.string a0_0) := (blk_cell BK354.out 0).trans rfl; have hcz8_1 : w6.cell? ⟨gb354, 1, none⟩ = some (.string a0_1) := (blk_cell BK354.out 1).trans rfl; have hfz8_0 := blk_frozen BK354.out 0; have hfz8_1 := blk_frozen BK354.out 1; have hcz9_0 : w6.cell? ⟨gb355, 0, none⟩ = some (.string a1_0) := (blk_cell BK355.out 0).trans rfl; have hcz9_1 : w6.cell? ⟨gb355, 1, none⟩ = some (.string a1_1) := (blk_cell BK355.out 1).trans rfl; have hfz9_0 := blk_frozen BK355.out 0; have hfz9_1 := blk_frozen BK355.out 1))
      go_ret
      exact ⟨rfl, by exact HB.out⟩
    · rw [if_neg c4] at H
      have c4b0 : (a0_1.toList == a1_1.toList) = false := beq_eq_false_iff_ne.mpr c4
      have c4b1 : (a0_1.toList != a1_1.toList) = true := bne_iff_ne.mpr c4
      obtain rfl := Option.some.inj H
      go_enter Tryd.func75, Tryd.ntmps75
      go_wp2_with (first | ((with_reducible refine gate_dst (N := 2) rfl ?_); refine box_event ?hg (N := 2) ?hd (cs := #[.string a0_0, .string a0_1]) (t := 62) ?hr ?_; (case hd => rfl); (case hg => rfl); (case hr => (go_simp; done)); intro gb354 hg w10 hbox hb; have n0_ := am (below_step HB.out hb); have n1_ := am hbox; have n2_ := am ((by rw [hg]; exact (below_size HB.out) : w.heap.size ≤ gb354)); have n3_ := am ((by rw [hg]; exact (below_size HB.out) : w.heap.size ≤ gb354)); clear HB; have HB := n0_; have BK354 := n1_; have GW354 := n2_; have GE354 := n3_; clear n0_ n1_ n2_ n3_; clear hb hbox hg) | ((with_reducible refine gate_dst (N := 3) rfl ?_); refine box_event ?hg (N := 3) ?hd (cs := #[.string a1_0, .string a1_1]) (t := 62) ?hr ?_; (case hd => rfl); (case hg => rfl); (case hr => (go_simp; done)); intro gb355 hg w11 hbox hb; have n0_ := am (blk_below (g := gb354) (o := .cells #[.string a0_0, .string a0_1] 62 (0, 0)) BK354.out hb); have n1_ := am (below_step HB.out hb); have n2_ := am hbox; have n3_ := am ((by rw [hg]; exact (below_size HB.out) : w.heap.size ≤ gb355)); have n4_ := am ((by rw [hg]; exact (below_size HB.out) : w.heap.size ≤ gb355)); have n5_ := am ((by rw [hg]; exact Nat.ne_of_lt (blk_lt (g := gb354) (o := .cells #[.string a0_0, .string a0_1] 62 (0, 0)) BK354.out) : gb354 ≠ gb355)); have n6_ := am ((by rw [hg]; exact Nat.ne_of_gt (blk_lt (g := gb354) (o := .cells #[.string a0_0, .string a0_1] 62 (0, 0)) BK354.out) : gb355 ≠ gb354)); clear BK354; clear HB; have BK354 := n0_; have HB := n1_; have BK355 := n2_; have GW355 := n3_; have GE355 := n4_; have NB354_355 := n5_; have NB355_354 := n6_; clear n0_ n1_ n2_ n3_ n4_ n5_ n6_; clear hb hbox hg; have hnb12 := NB354_355.out; have hnc12 := NB355_354.out; have hcz13_0 : w11.cell? ⟨gb354, 0, none⟩ = some (.string a0_0) := (blk_cell BK354.out 0).trans rfl; have hcz13_1 : w11.cell? ⟨gb354, 1, none⟩ = some (.string a0_1) := (blk_cell BK354.out 1).trans rfl; have hfz13_0 := blk_frozen BK354.out 0; have hfz13_1 := blk_frozen BK354.out 1; have hcz14_0 : w11.cell? ⟨gb355, 0, none⟩ = some (.string a1_0) := (blk_cell BK355.out 0).trans rfl; have hcz14_1 : w11.cell? ⟨gb355, 1, none⟩ = some (.string a1_1) := (blk_cell BK355.out 1).trans rfl; have hfz14_0 := blk_frozen BK355.out 0; have hfz14_1 := blk_frozen BK355.out 1))
      go_ret
      exact ⟨rfl, by exact HB.out⟩
  · rw [if_neg c3] at H
    have c3b0 : (a0_0.toList == a1_0.toList) = false := beq_eq_false_iff_ne.mpr c3
    have c3b1 : (a0_0.toList != a1_0.toList) = true := bne_iff_ne.mpr c3
    obtain rfl := Option.some.inj H
    go_enter Tryd.func75, Tryd.ntmps75
    go_wp2_with (first | ((with_reducible refine gate_dst (N := 2) rfl ?_); refine box_event ?hg (N := 2) ?hd (cs := #[.string a0_0, .string a0_1]) (t := 62) ?hr ?_; (case hd => rfl); (case hg => rfl); (case hr => (go_simp; done)); intro gb354 hg w15 hbox hb; have n0_ := am (below_step HB.out hb); have n1_ := am hbox; have n2_ := am ((by rw [hg]; exact (below_size HB.out) : w.heap.size ≤ gb354)); have n3_ := am ((by rw [hg]; exact (below_size HB.out) : w.heap.size ≤ gb354)); clear HB; have HB := n0_; have BK354 := n1_; have GW354 := n2_; have GE354 := n3_; clear n0_ n1_ n2_ n3_; clear hb hbox hg) | ((with_reducible refine gate_dst (N := 3) rfl ?_); refine box_event ?hg (N := 3) ?hd (cs := #[.string a1_0, .string a1_1]) (t := 62) ?hr ?_; (case hd => rfl); (case hg => rfl); (case hr => (go_simp; done)); intro gb355 hg w16 hbox hb; have n0_ := am (blk_below (g := gb354) (o := .cells #[.string a0_0, .string a0_1] 62 (0, 0)) BK354.out hb); have n1_ := am (below_step HB.out hb); have n2_ := am hbox; have n3_ := am ((by rw [hg]; exact (below_size HB.out) : w.heap.size ≤ gb355)); have n4_ := am ((by rw [hg]; exact (below_size HB.out) : w.heap.size ≤ gb355)); have n5_ := am ((by rw [hg]; exact Nat.ne_of_lt (blk_lt (g := gb354) (o := .cells #[.string a0_0, .string a0_1] 62 (0, 0)) BK354.out) : gb354 ≠ gb355)); have n6_ := am ((by rw [hg]; exact Nat.ne_of_gt (blk_lt (g := gb354) (o := .cells #[.string a0_0, .string a0_1] 62 (0, 0)) BK354.out) : gb355 ≠ gb354)); clear BK354; clear HB; have BK354 := n0_; have HB := n1_; have BK355 := n2_; have GW355 := n3_; have GE355 := n4_; have NB354_355 := n5_; have NB355_354 := n6_; clear n0_ n1_ n2_ n3_ n4_ n5_ n6_; clear hb hbox hg; have hnb17 := NB354_355.out; have hnc17 := NB355_354.out; have hcz18_0 : w16.cell? ⟨gb354, 0, none⟩ = some (.string a0_0) := (blk_cell BK354.out 0).trans rfl; have hcz18_1 : w16.cell? ⟨gb354, 1, none⟩ = some (.string a0_1) := (blk_cell BK354.out 1).trans rfl; have hfz18_0 := blk_frozen BK354.out 0; have hfz18_1 := blk_frozen BK354.out 1; have hcz19_0 : w16.cell? ⟨gb355, 0, none⟩ = some (.string a1_0) := (blk_cell BK355.out 0).trans rfl; have hcz19_1 : w16.cell? ⟨gb355, 1, none⟩ = some (.string a1_1) := (blk_cell BK355.out 1).trans rfl; have hfz19_0 := blk_frozen BK355.out 0; have hfz19_1 := blk_frozen BK355.out 1))
    go_ret
    exact ⟨rfl, by exact HB.out⟩
def laws_eqAttrS.l0 : Nat → List (S62) → List (S62) → Int → Option (Bool)
  | 0, _, _, _ => none
  | k + 1, x0, x1, x5 => if x5 < (x0.length : Int) then (if 0 ≤ x5 then (if x5 < (x1.length : Int) then ((laws_eqAttr.f ((rd_T62 x0 x5).f0) ((rd_T62 x0 x5).f1) ((rd_T62 x1 x5).f0) ((rd_T62 x1 x5).f1)).bind fun t358 => (if t358 = true then (laws_eqAttrS.l0 k x0 x1 (wrap64 (x5 + 1))) else (some false))) else (none)) else (none)) else (some true)
def laws_eqAttrS.f (k : Nat) (l0 : List (S62)) (l1 : List (S62)) : Option (Bool) := if (l0.length : Int) = (l1.length : Int) then (laws_eqAttrS.l0 k l0 l1 0) else (some false)
theorem laws_eqAttrS.mono_l : ∀ k, (∀ y0 y1 y2, LeO (laws_eqAttrS.l0 k y0 y1 y2) (laws_eqAttrS.l0 (k + 1) y0 y1 y2))
  | 0 => fun _ _ _ r h => by simp [laws_eqAttrS.l0] at h
  | k + 1 => by
    have ih0 := laws_eqAttrS.mono_l k
    · intro y0 y1 y2
      unfold laws_eqAttrS.l0
      repeat' first
      | (with_reducible exact ih0 _ _ _)
      | (with_reducible exact LeO.refl _)
      | (with_reducible exact LeO.none _)
      | (with_reducible refine LeO.ite ?_ ?_)
      | (with_reducible refine LeO.bind ?_ (fun _ => ?_))
      | exact ih0 _ _ _
      | exact LeO.none _
      | refine LeO.ite ?_ ?_
      | refine LeO.bind ?_ (fun _ => ?_)
theorem laws_eqAttrS.mono : ∀ a0 a1 k, LeO (laws_eqAttrS.f k a0 a1) (laws_eqAttrS.f (k + 1) a0 a1) := by
  intro a0 a1 k
  have ih0 := laws_eqAttrS.mono_l k
  unfold laws_eqAttrS.f
  repeat' first
      | (with_reducible exact ih0 _ _ _)
      | (with_reducible exact LeO.refl _)
      | (with_reducible exact LeO.none _)
      | (with_reducible refine LeO.ite ?_ ?_)
      | (with_reducible refine LeO.bind ?_ (fun _ => ?_))
      | exact ih0 _ _ _
      | exact LeO.none _
      | refine LeO.ite ?_ ?_
      | refine LeO.bind ?_ (fun _ => ?_)
def laws_eqAttrS.T6 : Bool × List (List Nat × List Nat) := (true, [([], []), ([], []), ([0, 1], [0, 1]), ([2], [2]), ([], []), ([], []), ([4, 5], [4, 5]), ([6], [6]), ([3, 7], [3, 7]), ([8], [8])])
def laws_eqAttrS.B6 : List Nat := [0, 0, 3, 7, 0, 0, 48, 112, 255, 511]
theorem laws_eqAttrS.tab6 : rtab .any (opsOf Tryd.f52 6) = laws_eqAttrS.T6 := by kernel_rfl
theorem laws_eqAttrS.bits6 : waitsOk laws_eqAttrS.T6.2 laws_eqAttrS.B6 = true := by kernel_rfl
set_option maxHeartbeats 8000000 in
set_option maxRecDepth 100000 in
theorem laws_eqAttrS.calls (k : Nat) (A0 : Option Addr) (c0 : Nat) (l0 : List (S62)) (A1 : Option Addr) (c1 : Nat) (l1 : List (S62)) (r : Bool) (w : World) (hr0 : Kd.C k62 w A0 l0.length l0) (hc0 : l0.length ≤ c0) (hr1 : Kd.C k62 w A1 l1.length l1) (hc1 : l1.length ≤ c1) (h : laws_eqAttrS.f k l0 l1 = some r) :
    Calls Tryd.prog 52 #[.slice A0 l0.length c0, .slice A1 l1.length c1] w fun e w' => e = .returned (.bool r) ∧ Below w.heap.size w w' := by
  have hu62 := Tryd.underlying62
  have HR0 := am hr0
  have HC0 := am hc0
  clear hr0 hc0
  have HR1 := am hr1
  have HC1 := am hc1
  clear hr1 hc1
  have HB := am (Below.refl w.heap.size w)
  have H := h
  clear h
  unfold laws_eqAttrS.f at H
  by_cases c3 : (l0.length : Int) = (l1.length : Int)
  · rw [if_pos c3] at H
    have c3b0 : ((l0.length : Int) == (l1.length : Int)) = true := beq_iff_eq.mpr c3
    have c3b1 : ((l0.length : Int) != (l1.length : Int)) = false := bne_eq_false_iff_eq.mpr c3
    have c3b2 : (l0.length == l1.length) = true := by (simp at c3 ⊢; omega)
    clear c3
    have H' := am H
    clear H
    go_enter Tryd.func52, Tryd.ntmps52
    go_wp2
    go_loopg [5] k (fun kq v5 w' => ∃ (x5_1 : Int), v5 = .int .i64 x5_1 ∧ Aside0 (laws_eqAttrS.l0 kq l0 l1 x5_1 = some r) ∧ Aside0 (kq ≤ k) ∧ Aside0 (Below w.heap.size w w'))
    case atStart => exact ⟨(0), rfl, H', ⟨Nat.le_refl _⟩, ⟨by exact HB.out⟩⟩
    case round =>
      clear H'
      try clear c3b0
      try clear c3b1
      try clear c3b2
      obtain ⟨x5_1, rfl, HA, HK1, HB⟩ := hrel
      cases gk with
      | zero => exact absurd HA.out (by simp [laws_eqAttrS.l0])
      | succ k1 =>
        have H := HA.out
        clear HA
        simp only [laws_eqAttrS.l0] at H
        by_cases c4 : x5_1 < (l0.length : Int)
        · rw [if_pos c4] at H
          have c4b0 : decide (x5_1 < (l0.length : Int)) = true := decide_eq_true c4
          clear c4
          obtain ⟨c5b0, H⟩ := ifn1 H
          obtain ⟨c6b0, H⟩ := ifn1 H
          obtain ⟨t358, A7, H⟩ := bnd H
          obtain rfl | rfl := boo t358
          · rw [if_pos rfl] at H
            have H' := am H
            clear H
            try go_wp2
            have n0_ := am (below_drew1 HB.out)
            clear HB
            have HB := n0_
            clear n0_
            have p356 : 0 ≤ (x5_1 : Int) := of_decide_eq_true (by with_reducible assumption)
            have q356 : x5_1 < (l0.length : Int) := of_decide_eq_true (by with_reducible assumption)
            obtain ⟨ad356, e356, hx356_0, hx356_1⟩ := at_T62 HR0.out x5_1 p356 q356
            have hw356_1 := hx356_1
            have hw356_0 := hx356_0
            cases e356
            replace hx356_0 := (HB.out.cell (World.block_lt_of_cell? w _ hx356_0)).trans hx356_0
            replace hx356_1 := (HB.out.cell (World.block_lt_of_cell? w _ hx356_1)).trans hx356_1
            replace p356 := eq_true p356
            replace q356 := eq_true q356
            have p357 : 0 ≤ (x5_1 : Int) := of_decide_eq_true (by with_reducible assumption)
            have q357 : x5_1 < (l1.length : Int) := of_decide_eq_true (by with_reducible assumption)
            obtain ⟨ad357, e357, hx357_0, hx357_1⟩ := at_T62 HR1.out x5_1 p357 q357
            have hw357_1 := hx357_1
            have hw357_0 := hx357_0
            cases e357
            replace hx357_0 := (HB.out.cell (World.block_lt_of_cell? w _ hx357_0)).trans hx357_0
            replace hx357_1 := (HB.out.cell (World.block_lt_of_cell? w _ hx357_1)).trans hx357_1
            replace p357 := eq_true p357
            replace q357 := eq_true q357
            refine start_ (n := 10) (S := fun w' => w'.cell? (ad356.add ((x5_1).toNat * 2)) = some (.string ((rd_T62 l0 x5_1).f0)) ∧ w'.cell? ⟨(ad356.add ((x5_1).toNat * 2)).block, (ad356.add ((x5_1).toNat * 2)).off + 1, none⟩ = some (.string ((rd_T62 l0 x5_1).f1)) ∧ w'.cell? (ad357.add ((x5_1).toNat * 2)) = some (.string ((rd_T62 l1 x5_1).f0)) ∧ w'.cell? ⟨(ad357.add ((x5_1).toNat * 2)).block, (ad357.add ((x5_1).toNat * 2)).off + 1, none⟩ = some (.string ((rd_T62 l1 x5_1).f1))) (ds := []) #[false, false, false, false, false, false, false, false, false, false] (by kernel_rfl) rfl rfl ⟨((HB.out.cell (World.block_lt_of_cell? w _ hw356_0)).trans hw356_0), ((HB.out.cell (World.block_lt_of_cell? w _ hw356_1)).trans hw356_1), ((HB.out.cell (World.block_lt_of_cell? w _ hw357_0)).trans hw357_0), ((HB.out.cell (World.block_lt_of_cell? w _ hw357_1)).trans hw357_1)⟩ (fun hHeld => ?_); refine with_tabW laws_eqAttrS.tab6 laws_eqAttrS.bits6 (fun HT_ HW_ => ?_)
            generalize wr.drew = w9 at HB hx356_0 hx356_1 hx357_0 hx357_1 hHeld ⊢
            refine pure_ (i := 0) (N := some 17) (v := ?_) (a' := ?_) #[true, false, false, false, false, false, false, false, false, false] rfl rfl (any_of HT_.out (by kernel_rfl)) (fun _ _ _ h => h) (Or.inl ⟨rfl, ?_⟩) ?_ ?_
            rotate_left
            · intro w'
              go_simp
              with_reducible rfl
            rotate_left
            · simp only [Act.put, List.setIfInBounds_toArray, List.set_cons_zero, List.set_cons_succ, i64_w, i32_w]
              rfl
            refine pure_ (i := 1) (N := some 18) (v := ?_) (a' := ?_) #[true, true, false, false, false, false, false, false, false, false] rfl rfl (any_of HT_.out (by kernel_rfl)) (fun _ _ _ h => h) (Or.inl ⟨rfl, ?_⟩) ?_ ?_
            rotate_left
            · intro w'
              go_simp
              with_reducible rfl
            rotate_left
            · simp only [Act.put, List.setIfInBounds_toArray, List.set_cons_zero, List.set_cons_succ, i64_w, i32_w]
              rfl
            refine pure_ (i := 2) (N := some 19) (v := ?_) (a' := ?_) #[true, true, true, false, false, false, false, false, false, false] rfl rfl (any_of HT_.out (by kernel_rfl)) (fun _ _ _ h => h) (Or.inl ⟨rfl, ?_⟩) ?_ ?_
            rotate_left
            · intro w'
              go_simp
              with_reducible rfl
            rotate_left
            · simp only [Act.put, List.setIfInBounds_toArray, List.set_cons_zero, List.set_cons_succ, i64_w, i32_w]
              rfl
            refine pure_ (i := 4) (N := some 21) (v := ?_) (a' := ?_) #[true, true, true, false, true, false, false, false, false, false] rfl rfl (any_of HT_.out (by kernel_rfl)) (fun _ _ _ h => h) (Or.inl ⟨rfl, ?_⟩) ?_ ?_
            rotate_left
            · intro w'
              go_simp
              with_reducible rfl
            rotate_left
            · simp only [Act.put, List.setIfInBounds_toArray, List.set_cons_zero, List.set_cons_succ, i64_w, i32_w]
              rfl
            refine pure_ (i := 5) (N := some 22) (v := ?_) (a' := ?_) #[true, true, true, false, true, true, false, false, false, false] rfl rfl (any_of HT_.out (by kernel_rfl)) (fun _ _ _ h => h) (Or.inl ⟨rfl, ?_⟩) ?_ ?_
            rotate_left
            · intro w'
              go_simp
              with_reducible rfl
            rotate_left
            · simp only [Act.put, List.setIfInBounds_toArray, List.set_cons_zero, List.set_cons_succ, i64_w, i32_w]
              rfl
            refine pure_ (i := 6) (N := some 23) (v := ?_) (a' := ?_) #[true, true, true, false, true, true, true, false, false, false] rfl rfl (any_of HT_.out (by kernel_rfl)) (fun _ _ _ h => h) (Or.inl ⟨rfl, ?_⟩) ?_ ?_
            rotate_left
            · intro w'
              go_simp
              with_reducible rfl
            rotate_left
            · simp only [Act.put, List.setIfInBounds_toArray, List.set_cons_zero, List.set_cons_succ, i64_w, i32_w]
              rfl
            refine take_ (i := 3) (N := some 20) (v := ?_) (a' := ?_) #[true, true, true, true, true, true, true, false, false, false] rfl rfl (take_ofW HT_.out HW_.out (by kernel_rfl)) (fun _ _ _ h => h) (Or.inl ⟨rfl, ?_⟩) hHeld ?_ ?_
            rotate_left
            · rintro w' ⟨s0, s1, s2, s3⟩
              go_simp
              with_reducible rfl
            rotate_left
            · simp only [Act.put, List.setIfInBounds_toArray, List.set_cons_zero, List.set_cons_succ, i64_w, i32_w]
              rfl
            refine take_ (i := 7) (N := some 24) (v := ?_) (a' := ?_) #[true, true, true, true, true, true, true, true, false, false] rfl rfl (take_ofW HT_.out HW_.out (by kernel_rfl)) (fun _ _ _ h => h) (Or.inl ⟨rfl, ?_⟩) hHeld ?_ ?_
            rotate_left
            · rintro w' ⟨s0, s1, s2, s3⟩
              go_simp
              with_reducible rfl
            rotate_left
            · simp only [Act.put, List.setIfInBounds_toArray, List.set_cons_zero, List.set_cons_succ, i64_w, i32_w]
              rfl
            refine one_ (i := 8) (N := some 25) #[true, true, true, true, true, true, true, true, true, false] rfl rfl (one_of HT_.out (by kernel_rfl)) (by decide) (fun K hK => ?_)
            refine goes_ Tryd.func75 (by kernel_rfl) rfl #[.agg #[.string ((rd_T62 l0 x5_1).f0), .string ((rd_T62 l0 x5_1).f1)], .agg #[.string ((rd_T62 l1 x5_1).f0), .string ((rd_T62 l1 x5_1).f1)]] rfl rfl rfl (by simp only [List.map_toArray, List.map_cons, List.map_nil]; rfl) ?_
            with_reducible refine (laws_eqAttr.calls ((rd_T62 l0 x5_1).f0) ((rd_T62 l0 x5_1).f1) ((rd_T62 l1 x5_1).f0) ((rd_T62 l1 x5_1).f1) true _ A7.out).mono ?_
            rintro e w10 ⟨rfl, hb⟩
            refine ⟨_, rfl, ?_⟩
            have n0_ := am (below_step HB.out hb)
            clear HB
            have HB := n0_
            clear n0_
            (try clear hb)
            refine hK.out _ _ ⟨((HB.out.cell (World.block_lt_of_cell? w _ hw356_0)).trans hw356_0), ((HB.out.cell (World.block_lt_of_cell? w _ hw356_1)).trans hw356_1), ((HB.out.cell (World.block_lt_of_cell? w _ hw357_0)).trans hw357_0), ((HB.out.cell (World.block_lt_of_cell? w _ hw357_1)).trans hw357_1)⟩ (fun hHeld => ?_)
            clear hK K
            refine norm_ (a' := ?_) ?_ ?_
            rotate_left
            · show Act.put _ (some 25) _ = _
              simp only [Act.put, List.setIfInBounds_toArray, List.set_cons_zero, List.set_cons_succ, i64_w, i32_w]
              rfl
            refine pure_ (i := 9) (N := some 26) (v := ?_) (a' := ?_) #[true, true, true, true, true, true, true, true, true, true] rfl rfl (any_of HT_.out (by kernel_rfl)) (fun _ _ _ h => h) (Or.inl ⟨rfl, ?_⟩) ?_ ?_
            rotate_left
            · intro w'
              go_simp
              with_reducible rfl
            rotate_left
            · simp only [Act.put, List.setIfInBounds_toArray, List.set_cons_zero, List.set_cons_succ, i64_w, i32_w]
              rfl
            refine done_ (done_of HT_.out (by kernel_rfl)) ?_
            try go_wp2
            go_roundg k1
            case measure => have := HK1.out; omega
            case rel => exact ⟨(wrap64 (x5_1 + 1)), rfl, H', ⟨by have := HK1.out; omega⟩, ⟨by exact HB.out⟩⟩
          · rw [if_neg nft] at H
            obtain rfl := Option.some.inj H
            try go_wp2
            have n0_ := am (below_drew1 HB.out)
            clear HB
            have HB := n0_
            clear n0_
            have p356 : 0 ≤ (x5_1 : Int) := of_decide_eq_true (by with_reducible assumption)
            have q356 : x5_1 < (l0.length : Int) := of_decide_eq_true (by with_reducible assumption)
            obtain ⟨ad356, e356, hx356_0, hx356_1⟩ := at_T62 HR0.out x5_1 p356 q356
            have hw356_1 := hx356_1
            have hw356_0 := hx356_0
            cases e356
            replace hx356_0 := (HB.out.cell (World.block_lt_of_cell? w _ hx356_0)).trans hx356_0
            replace hx356_1 := (HB.out.cell (World.block_lt_of_cell? w _ hx356_1)).trans hx356_1
            replace p356 := eq_true p356
            replace q356 := eq_true q356
            have p357 : 0 ≤ (x5_1 : Int) := of_decide_eq_true (by with_reducible assumption)
            have q357 : x5_1 < (l1.length : Int) := of_decide_eq_true (by with_reducible assumption)
            obtain ⟨ad357, e357, hx357_0, hx357_1⟩ := at_T62 HR1.out x5_1 p357 q357
            have hw357_1 := hx357_1
            have hw357_0 := hx357_0
            cases e357
            replace hx357_0 := (HB.out.cell (World.block_lt_of_cell? w _ hx357_0)).trans hx357_0
            replace hx357_1 := (HB.out.cell (World.block_lt_of_cell? w _ hx357_1)).trans hx357_1
            replace p357 := eq_true p357
            replace q357 := eq_true q357
            refine start_ (n := 10) (S := fun w' => w'.cell? (ad356.add ((x5_1).toNat * 2)) = some (.string ((rd_T62 l0 x5_1).f0)) ∧ w'.cell? ⟨(ad356.add ((x5_1).toNat * 2)).block, (ad356.add ((x5_1).toNat * 2)).off + 1, none⟩ = some (.string ((rd_T62 l0 x5_1).f1)) ∧ w'.cell? (ad357.add ((x5_1).toNat * 2)) = some (.string ((rd_T62 l1 x5_1).f0)) ∧ w'.cell? ⟨(ad357.add ((x5_1).toNat * 2)).block, (ad357.add ((x5_1).toNat * 2)).off + 1, none⟩ = some (.string ((rd_T62 l1 x5_1).f1))) (ds := []) #[false, false, false, false, false, false, false, false, false, false] (by kernel_rfl) rfl rfl ⟨((HB.out.cell (World.block_lt_of_cell? w _ hw356_0)).trans hw356_0), ((HB.out.cell (World.block_lt_of_cell? w _ hw356_1)).trans hw356_1), ((HB.out.cell (World.block_lt_of_cell? w _ hw357_0)).trans hw357_0), ((HB.out.cell (World.block_lt_of_cell? w _ hw357_1)).trans hw357_1)⟩ (fun hHeld => ?_); refine with_tabW laws_eqAttrS.tab6 laws_eqAttrS.bits6 (fun HT_ HW_ => ?_)
            generalize wr.drew = w11 at HB hx356_0 hx356_1 hx357_0 hx357_1 hHeld ⊢
            refine pure_ (i := 0) (N := some 17) (v := ?_) (a' := ?_) #[true, false, false, false, false, false, false, false, false, false] rfl rfl (any_of HT_.out (by kernel_rfl)) (fun _ _ _ h => h) (Or.inl ⟨rfl, ?_⟩) ?_ ?_
            rotate_left
            · intro w'
              go_simp
              with_reducible rfl
            rotate_left
            · simp only [Act.put, List.setIfInBounds_toArray, List.set_cons_zero, List.set_cons_succ, i64_w, i32_w]
              rfl
            refine pure_ (i := 1) (N := some 18) (v := ?_) (a' := ?_) #[true, true, false, false, false, false, false, false, false, false] rfl rfl (any_of HT_.out (by kernel_rfl)) (fun _ _ _ h => h) (Or.inl ⟨rfl, ?_⟩) ?_ ?_
            rotate_left
            · intro w'
              go_simp
              with_reducible rfl
            rotate_left
            · simp only [Act.put, List.setIfInBounds_toArray, List.set_cons_zero, List.set_cons_succ, i64_w, i32_w]
              rfl
            refine pure_ (i := 2) (N := some 19) (v := ?_) (a' := ?_) #[true, true, true, false, false, false, false, false, false, false] rfl rfl (any_of HT_.out (by kernel_rfl)) (fun _ _ _ h => h) (Or.inl ⟨rfl, ?_⟩) ?_ ?_
            rotate_left
            · intro w'
              go_simp
              with_reducible rfl
            rotate_left
            · simp only [Act.put, List.setIfInBounds_toArray, List.set_cons_zero, List.set_cons_succ, i64_w, i32_w]
              rfl
            refine pure_ (i := 4) (N := some 21) (v := ?_) (a' := ?_) #[true, true, true, false, true, false, false, false, false, false] rfl rfl (any_of HT_.out (by kernel_rfl)) (fun _ _ _ h => h) (Or.inl ⟨rfl, ?_⟩) ?_ ?_
            rotate_left
            · intro w'
              go_simp
              with_reducible rfl
            rotate_left
            · simp only [Act.put, List.setIfInBounds_toArray, List.set_cons_zero, List.set_cons_succ, i64_w, i32_w]
              rfl
            refine pure_ (i := 5) (N := some 22) (v := ?_) (a' := ?_) #[true, true, true, false, true, true, false, false, false, false] rfl rfl (any_of HT_.out (by kernel_rfl)) (fun _ _ _ h => h) (Or.inl ⟨rfl, ?_⟩) ?_ ?_
            rotate_left
            · intro w'
              go_simp
              with_reducible rfl
            rotate_left
            · simp only [Act.put, List.setIfInBounds_toArray, List.set_cons_zero, List.set_cons_succ, i64_w, i32_w]
              rfl
            refine pure_ (i := 6) (N := some 23) (v := ?_) (a' := ?_) #[true, true, true, false, true, true, true, false, false, false] rfl rfl (any_of HT_.out (by kernel_rfl)) (fun _ _ _ h => h) (Or.inl ⟨rfl, ?_⟩) ?_ ?_
            rotate_left
            · intro w'
              go_simp
              with_reducible rfl
            rotate_left
            · simp only [Act.put, List.setIfInBounds_toArray, List.set_cons_zero, List.set_cons_succ, i64_w, i32_w]
              rfl
            refine take_ (i := 3) (N := some 20) (v := ?_) (a' := ?_) #[true, true, true, true, true, true, true, false, false, false] rfl rfl (take_ofW HT_.out HW_.out (by kernel_rfl)) (fun _ _ _ h => h) (Or.inl ⟨rfl, ?_⟩) hHeld ?_ ?_
            rotate_left
            · rintro w' ⟨s0, s1, s2, s3⟩
              go_simp
              with_reducible rfl
            rotate_left
            · simp only [Act.put, List.setIfInBounds_toArray, List.set_cons_zero, List.set_cons_succ, i64_w, i32_w]
              rfl
            refine take_ (i := 7) (N := some 24) (v := ?_) (a' := ?_) #[true, true, true, true, true, true, true, true, false, false] rfl rfl (take_ofW HT_.out HW_.out (by kernel_rfl)) (fun _ _ _ h => h) (Or.inl ⟨rfl, ?_⟩) hHeld ?_ ?_
            rotate_left
            · rintro w' ⟨s0, s1, s2, s3⟩
              go_simp
              with_reducible rfl
            rotate_left
            · simp only [Act.put, List.setIfInBounds_toArray, List.set_cons_zero, List.set_cons_succ, i64_w, i32_w]
              rfl
            refine one_ (i := 8) (N := some 25) #[true, true, true, true, true, true, true, true, true, false] rfl rfl (one_of HT_.out (by kernel_rfl)) (by decide) (fun K hK => ?_)
            refine goes_ Tryd.func75 (by kernel_rfl) rfl #[.agg #[.string ((rd_T62 l0 x5_1).f0), .string ((rd_T62 l0 x5_1).f1)], .agg #[.string ((rd_T62 l1 x5_1).f0), .string ((rd_T62 l1 x5_1).f1)]] rfl rfl rfl (by simp only [List.map_toArray, List.map_cons, List.map_nil]; rfl) ?_
            with_reducible refine (laws_eqAttr.calls ((rd_T62 l0 x5_1).f0) ((rd_T62 l0 x5_1).f1) ((rd_T62 l1 x5_1).f0) ((rd_T62 l1 x5_1).f1) false _ A7.out).mono ?_
            rintro e w12 ⟨rfl, hb⟩
            refine ⟨_, rfl, ?_⟩
            have n0_ := am (below_step HB.out hb)
            clear HB
            have HB := n0_
            clear n0_
            (try clear hb)
            refine hK.out _ _ ⟨((HB.out.cell (World.block_lt_of_cell? w _ hw356_0)).trans hw356_0), ((HB.out.cell (World.block_lt_of_cell? w _ hw356_1)).trans hw356_1), ((HB.out.cell (World.block_lt_of_cell? w _ hw357_0)).trans hw357_0), ((HB.out.cell (World.block_lt_of_cell? w _ hw357_1)).trans hw357_1)⟩ (fun hHeld => ?_)
            clear hK K
            refine norm_ (a' := ?_) ?_ ?_
            rotate_left
            · show Act.put _ (some 25) _ = _
              simp only [Act.put, List.setIfInBounds_toArray, List.set_cons_zero, List.set_cons_succ, i64_w, i32_w]
              rfl
            refine pure_ (i := 9) (N := some 26) (v := ?_) (a' := ?_) #[true, true, true, true, true, true, true, true, true, true] rfl rfl (any_of HT_.out (by kernel_rfl)) (fun _ _ _ h => h) (Or.inl ⟨rfl, ?_⟩) ?_ ?_
            rotate_left
            · intro w'
              go_simp
              with_reducible rfl
            rotate_left
            · simp only [Act.put, List.setIfInBounds_toArray, List.set_cons_zero, List.set_cons_succ, i64_w, i32_w]
              rfl
            refine done_ (done_of HT_.out (by kernel_rfl)) ?_
            try go_wp2
            go_ret
            exact ⟨rfl, by exact HB.out⟩
        · rw [if_neg c4] at H
          have c4b0 : decide (x5_1 < (l0.length : Int)) = false := decide_eq_false c4
          clear c4
          obtain rfl := Option.some.inj H
          go_wp2
          go_ret
          exact ⟨rfl, by exact HB.out⟩
  · rw [if_neg c3] at H
    have c3b0 : ((l0.length : Int) == (l1.length : Int)) = false := beq_eq_false_iff_ne.mpr c3
    have c3b1 : ((l0.length : Int) != (l1.length : Int)) = true := bne_iff_ne.mpr c3
    have c3b2 : (l0.length == l1.length) = false := by (simp at c3 ⊢; omega)
    obtain rfl := Option.some.inj H
    go_enter Tryd.func52, Tryd.ntmps52
    go_wp2
    go_ret
    exact ⟨rfl, by exact HB.out⟩
end Go.Proofs.YtnjnoabldjodcaaDoor.PFnExactTokens
