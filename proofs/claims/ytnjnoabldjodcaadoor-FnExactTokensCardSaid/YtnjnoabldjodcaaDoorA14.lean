/- Part 14 of the proof: TokNum, TokSmall, TokIRef. -/
import Derived.Test.YtnjnoabldjodcaaDoorA13
set_option linter.unusedVariables false
set_option linter.unusedSimpArgs false
namespace Go.Proofs.YtnjnoabldjodcaaDoor.Tok
open Go.RowKit Go.Proofs.YtnjnoabldjodcaaDoorW.PrintWords Go.Proofs.YtnjnoabldjodcaaDoorW.PrintLast Go.Proofs.YtnjnoabldjodcaaDoorW.PrintMore Go.Proofs.YtnjnoabldjodcaaDoor.PFnExactTokens
def baseOf (hex : Bool) : Int := if hex then 16 else 10
theorem idigit_f (b : Int) : impl_isDigit.f b = some (digit b) := by
  unfold impl_isDigit.f digit
  by_cases h : 48 ≤ b
  · rw [if_pos h]; simp [h]
  · rw [if_neg h]; simp [h]
theorem digitOf_f (b : Int) (h : byte b) (hex : Bool) : Ev (fun k => impl_digitOf.f k b hex) (if hexv b < baseOf hex then hexv b else -1) := by
  refine ⟨1, fun k hk => ?_⟩
  obtain ⟨m, rfl⟩ : ∃ m, k = m + 1 := ⟨k - 1, by omega⟩
  obtain ⟨h0, h1⟩ := h
  unfold impl_digitOf.f
  rw [idigit_f]
  simp only [Option.bind_some]
  unfold hexv
  by_cases c : digit b = true
  · have c' := c
    unfold digit at c'
    simp only [Bool.and_eq_true, decide_eq_true_eq] at c'
    rw [if_pos c, if_pos c]
    rw [if_pos (by unfold baseOf; split <;> omega)]
    congr 1
    omega
  · rw [if_neg c, if_neg c]
    have c' : ¬ (48 ≤ b ∧ b ≤ 57) := fun h => c (by unfold digit; simp [h])
    cases hex with
    | false =>
      simp only [Bool.false_eq_true, if_false, impl_digitOf.j0]
      rw [if_neg (by unfold baseOf; simp only [Bool.false_eq_true, if_false]; split; omega; split <;> omega)]
    | true =>
      simp only [if_true]
      have hbs : baseOf true = 16 := rfl
      rw [hbs]
      by_cases c1 : 97 ≤ b <;> by_cases c2 : b ≤ 102 <;> by_cases c3 : 65 ≤ b <;> by_cases c4 : b ≤ 70 <;> (try omega) <;> simp [impl_digitOf.j0, c1, c2, c3, c4] <;> (try split) <;> omega
def iLoop (base : Int) : Bs → Int → Nat × Int
  | [], n => (0, n)
  | b :: l, n => if hexv b < base then ((iLoop base l (mn (n * base + hexv b) 1114112)).1 + 1, (iLoop base l (mn (n * base + hexv b) 1114112)).2) else (0, n)
theorem mn_eq (a b : Int) : mn a b = if a ≤ b then a else b := by unfold mn; split <;> split <;> omega
theorem iLoop_is (base : Int) (hb : base = 10 ∨ base = 16) : ∀ (l : Bs) (n m : Int), 0 ≤ n → m = (if n ≤ 1114112 then n else 1114112) → iLoop base l m = ((numLoop base l n).1, if (numLoop base l n).2 ≤ 1114112 then (numLoop base l n).2 else 1114112)
  | [], n, m, _, h => by rw [h]; rfl
  | b :: l, n, m, h0, h => by
    have hx := hexv_pos b
    by_cases c : hexv b < base
    · have e1 : numLoop base (b :: l) n = ((numLoop base l (if n ≤ 1114111 then n * base + hexv b else n)).1 + 1, (numLoop base l (if n ≤ 1114111 then n * base + hexv b else n)).2) := by simp only [numLoop]; rw [if_pos c]
      rw [e1]
      simp only [iLoop]
      rw [if_pos c]
      have := iLoop_is base hb l (if n ≤ 1114111 then n * base + hexv b else n) (mn (m * base + hexv b) 1114112) (by split <;> rcases hb with rfl | rfl <;> omega) (by
        rw [mn_eq, h]
        rcases hb with rfl | rfl <;> (split <;> split <;> split <;> (try split) <;> omega))
      rw [this]
    · have e1 : numLoop base (b :: l) n = (0, n) := by simp only [numLoop]; rw [if_neg c]
      rw [e1]
      simp only [iLoop]
      rw [if_neg c, h]
theorem iLoop_le (base : Int) : ∀ (l : Bs) (n : Int), (iLoop base l n).1 ≤ l.length
  | [], n => Nat.le_refl _
  | b :: l, n => by
    unfold iLoop
    split
    · have := iLoop_le base l (mn (n * base + hexv b) 1114112); simp; omega
    · simp
theorem inum_l0 (s : ByteArray) (hs : s.size < 2 ^ 46) (hex : Bool) (fr : Int) (R : Nat → Int → ByteArray × Int)
    (lo : Nat) (hfin : ∀ (i : Nat) (n : Int), lo ≤ i → i ≤ s.size → 0 ≤ n → n ≤ 1114112 → Ev (fun k => impl_numbered.j3 k s i hex fr n false) (R i n)) : ∀ (d i : Nat) (n : Int), lo ≤ i → i + d = s.size → 0 ≤ n → n ≤ 1114112 →
    Ev (fun k => impl_numbered.l0 k s i hex fr n) (R (i + (iLoop (baseOf hex) ((B s).drop i) n).1) (iLoop (baseOf hex) ((B s).drop i) n).2) := by
  intro d
  induction d with
  | zero =>
    intro i n hlo h h0 h1
    rw [List.drop_eq_nil_of_le (by rw [B_length]; omega)]
    simp only [iLoop, Nat.add_zero]
    exact (hfin i n hlo (by omega) h0 h1).step fun k => by simp only [impl_numbered.l0]; rw [if_neg (by omega)]
  | succ d ih =>
    intro i n hlo h h0 h1
    have hi : i < s.size := by omega
    have hl : i < (B s).length := by rw [B_length]; exact hi
    have hg := B_get s i hi
    rw [List.getElem?_eq_getElem hl] at hg
    injection hg with hg
    rw [List.drop_eq_getElem_cons hl, hg]
    simp only [iLoop]
    have hx := digitOf_f (bt s i) (bt_range s i) hex
    have hxv := hexv_pos (bt s i)
    have hb : baseOf hex = 10 ∨ baseOf hex = 16 := by unfold baseOf; cases hex <;> simp
    by_cases c : hexv (bt s i) < baseOf hex
    · rw [if_pos c] at hx
      simp only [if_pos c]
      have hm : 0 ≤ mn (n * baseOf hex + hexv (bt s i)) 1114112 ∧ mn (n * baseOf hex + hexv (bt s i)) 1114112 ≤ 1114112 := by
        rw [mn_eq]; rcases hb with e | e <;> rw [e] <;> split <;> omega
      have ih2 := ih (i + 1) (mn (n * baseOf hex + hexv (bt s i)) 1114112) (by omega) (by omega) hm.1 hm.2
      rw [show i + 1 + (iLoop (baseOf hex) ((B s).drop (i + 1)) (mn (n * baseOf hex + hexv (bt s i)) 1114112)).1 = i + ((iLoop (baseOf hex) ((B s).drop (i + 1)) (mn (n * baseOf hex + hexv (bt s i)) 1114112)).1 + 1) from by omega] at ih2
      have e1 : wrap64 (n * baseOf hex) = n * baseOf hex := w64 (by rcases hb with e | e <;> rw [e] <;> omega) (by rcases hb with e | e <;> rw [e] <;> omega)
      have e2 : wrap64 (n * baseOf hex + hexv (bt s i)) = n * baseOf hex + hexv (bt s i) := w64 (by rcases hb with e | e <;> rw [e] <;> omega) (by rcases hb with e | e <;> rw [e] <;> omega)
      have hg2 : Ev (fun k => impl_numbered.j3 k s i hex fr n (decide (hexv (bt s i) ≥ 0))) (R (i + ((iLoop (baseOf hex) ((B s).drop (i + 1)) (mn (n * baseOf hex + hexv (bt s i)) 1114112)).1 + 1)) (iLoop (baseOf hex) ((B s).drop (i + 1)) (mn (n * baseOf hex + hexv (bt s i)) 1114112)).2) := by
        refine Ev.step (g := fun k => (impl_digitOf.f k (bt s i) hex).bind fun t => impl_numbered.l0 k s (wrap64 ((i : Int) + 1)) hex fr (mn (wrap64 ((wrap64 (n * baseOf hex)) + t)) 1114112)) (Ev.bind hx ?_) fun k => ?_
        · rw [e1, e2, w64 (n := (i : Int) + 1) (by omega) (by omega)]
          exact ih2
        · simp only [impl_numbered.j3]
          rw [if_pos (by simpa using hxv.1)]
          cases hex with
          | true => simp only [if_true]; rw [if_pos (by omega), if_pos (by omega)]; rfl
          | false => simp only [Bool.false_eq_true, if_false]; rw [if_pos (by omega), if_pos (by omega)]; rfl
      refine Ev.step (g := fun k => (impl_digitOf.f k (bt s i) hex).bind fun t => impl_numbered.j3 k s i hex fr n (decide (t ≥ 0))) (Ev.bind hx hg2) fun k => ?_
      simp only [impl_numbered.l0]
      rw [if_pos (by omega), if_pos (by omega)]
    · rw [if_neg c] at hx
      simp only [if_neg c, Nat.add_zero]
      refine Ev.step (g := fun k => (impl_digitOf.f k (bt s i) hex).bind fun t => impl_numbered.j3 k s i hex fr n (decide (t ≥ 0))) (Ev.bind hx ?_) fun k => ?_
      · exact hfin i n hlo (by omega) h0 h1
      · simp only [impl_numbered.l0]
        rw [if_pos (by omega), if_pos (by omega)]
theorem inum_fin (s : ByteArray) (hs : s.size < 2 ^ 46) (hex : Bool) (fr i : Nat) (n : Int) (hi : i ≤ s.size) :
    Ev (fun k => impl_numbered.j3 k s i hex fr n false) (if i = fr then (S [], 0) else (S (put (if n = 0 then 65533 else n)), (((i + 2 : Nat) : Int) + (if ((B s).drop i).head? = some 59 then 1 else 0)))) := by
  by_cases c : i = fr
  · rw [if_pos c]
    subst c
    exact Ev.done fun k => by simp only [impl_numbered.j3, Bool.false_eq_true, if_false, if_true]; rfl
  · rw [if_neg c]
    have c' : ¬ (i : Int) = fr := by omega
    have h4 : ∀ b : Bool, b = decide (((B s).drop i).head? = some 59) → Ev (fun k => impl_numbered.j4 k i n b) (S (put (if n = 0 then 65533 else n)), (((i + 2 : Nat) : Int) + (if ((B s).drop i).head? = some 59 then 1 else 0))) := fun b hb => by
      refine Ev.done fun k => ?_
      simp only [impl_numbered.j4, impl_Encode.f, List.length_singleton, if_true, List.headD_cons, Option.bind_some]
      have e3 : wrap64 (wrap64 ((i : Int) + 1) + 2) = (i : Int) + 3 := by rw [w64 (n := (i : Int) + 1) (by omega) (by omega), w64 (by omega) (by omega)]; omega
      have e4 : wrap64 ((i : Int) + 2) = (i : Int) + 2 := w64 (by omega) (by omega)
      by_cases hh : ((B s).drop i).head? = some 59
      · rw [if_pos (by rw [hb]; simpa using hh), if_pos hh, e3]
        by_cases hn : n = 0
        · rw [if_pos hn, if_pos hn]; congr 2
        · rw [if_neg hn, if_neg hn]; congr 2
      · rw [if_neg (by rw [hb]; simpa using hh), if_neg hh, e4]
        by_cases hn : n = 0
        · rw [if_pos hn, if_pos hn]; congr 2
        · rw [if_neg hn, if_neg hn]; congr 2
    rcases Nat.lt_or_ge i s.size with hlt | hge
    · refine (h4 (bt s i == 59) (by rw [head_B s i hlt, Bool.eq_iff_iff]; simp)).step fun k => ?_
      simp only [impl_numbered.j3, Bool.false_eq_true, if_false]
      rw [if_neg c', if_pos (by omega), if_pos (by omega)]
    · refine (h4 false (by rw [head_end s i hge]; simp)).step fun k => ?_
      simp only [impl_numbered.j3, Bool.false_eq_true, if_false]
      rw [if_neg c', if_neg (by omega)]
theorem put_over {n : Int} (h : 1114112 ≤ n) : put n = enc 65533 := by unfold put; rw [if_pos (by unfold off; simp; omega)]
theorem put_end {n : Int} (h0 : 0 ≤ n) : put (if (if n ≤ 1114112 then n else 1114112) = 0 then 65533 else (if n ≤ 1114112 then n else 1114112)) = put (if n = 0 then -1 else n) := by
  by_cases c : n = 0
  · subst c; decide
  · by_cases c2 : n ≤ 1114112
    · rw [if_pos c2, if_neg c, if_neg c]
    · rw [if_neg c2, if_neg c, if_neg (by decide), put_over (by omega), put_over (by omega)]
theorem numLoop_pos (base : Int) (hb : 0 ≤ base) : ∀ (l : Bs) (n : Int), 0 ≤ n → 0 ≤ (numLoop base l n).2
  | [], n, h => h
  | b :: l, n, h => by
    unfold numLoop
    split
    · refine numLoop_pos base hb l _ ?_
      have := (hexv_pos b).1
      have h2 := Int.mul_nonneg h hb
      split <;> omega
    · exact h
theorem inumber_f (s : ByteArray) (hs : s.size < 2 ^ 46) : Ev (fun k => impl_numbered.f k s) (S (number (B s)).1, ((number (B s)).2 : Int)) := by
  have main : ∀ (o : Nat) (hex : Bool), o ≤ s.size → o = (if hex then 1 else 0) → isX (B s) = hex →
      Ev (fun k => impl_numbered.l0 k s (o : Nat) hex (o : Nat) 0) (S (number (B s)).1, ((number (B s)).2 : Int)) := by
    intro o hex ho hoe hx
    have hb : baseOf hex = 10 ∨ baseOf hex = 16 := by unfold baseOf; cases hex <;> simp
    have h := inum_l0 s hs hex (o : Nat) (fun i n => if i = o then (S [], 0) else (S (put (if n = 0 then 65533 else n)), (((i + 2 : Nat) : Int) + (if ((B s).drop i).head? = some 59 then 1 else 0))))
      o (fun i n hlo hi h0 h1 => inum_fin s hs hex o i n hi) (s.size - o) o 0 (Nat.le_refl _) (by omega) (by omega) (by omega)
    have hl := iLoop_is (baseOf hex) hb ((B s).drop o) 0 0 (by omega) rfl
    have hp := numLoop_pos (baseOf hex) (by rcases hb with e | e <;> omega) ((B s).drop o) 0 (by omega)
    rw [hl] at h
    have en : number (B s) = (if (numLoop (baseOf hex) ((B s).drop o) 0).1 = 0 then ([], 0) else (put (if (numLoop (baseOf hex) ((B s).drop o) 0).2 = 0 then -1 else (numLoop (baseOf hex) ((B s).drop o) 0).2), 2 + (o + (numLoop (baseOf hex) ((B s).drop o) 0).1) + (if ((B s).drop (o + (numLoop (baseOf hex) ((B s).drop o) 0).1)).head? = some 59 then 1 else 0))) := by
      unfold number
      rw [hx]
      cases hex with
      | true => simp only [if_true] at hoe ⊢; subst hoe; rfl
      | false => simp only [Bool.false_eq_true, if_false] at hoe ⊢; subst hoe; rfl
    rw [en]
    generalize numLoop (baseOf hex) ((B s).drop o) 0 = r at h hp ⊢
    obtain ⟨r1, r2⟩ := r
    simp only at h hp ⊢
    by_cases c : r1 = 0
    · subst c
      simpa using h
    · rw [if_neg c]
      rw [if_neg (by omega), put_end hp] at h
      have e2 : (((o + r1 + 2 : Nat) : Int) + (if ((B s).drop (o + r1)).head? = some 59 then 1 else 0)) = ((2 + (o + r1) + (if ((B s).drop (o + r1)).head? = some 59 then 1 else 0) : Nat) : Int) := by
        split <;> omega
      rw [e2] at h
      exact h
  have fin : ∀ b : Bool, isX (B s) = b → (b = true → 1 ≤ s.size) → Ev (fun k => impl_numbered.j0 k s 0 b) (S (number (B s)).1, ((number (B s)).2 : Int)) := fun b hb h1 => by
    cases b with
    | true =>
      have h := main 1 true (h1 rfl) rfl hb
      refine (h.step (f := fun k => impl_numbered.j1 k s 1 true) fun k => by simp only [impl_numbered.j1]; rfl).step fun k => ?_
      simp only [impl_numbered.j0, if_true]
    | false =>
      have h := main 0 false (Nat.zero_le _) rfl hb
      refine (h.step (f := fun k => impl_numbered.j1 k s 0 false) fun k => by simp only [impl_numbered.j1]; rfl).step fun k => ?_
      simp only [impl_numbered.j0, Bool.false_eq_true, if_false]
  unfold impl_numbered.f
  by_cases c0 : s.toList = []
  · have hn : B s = [] := by
      have := (toList_eq (a := s) (b := (⟨#[]⟩ : ByteArray))).1 (c0.trans (by rw [toList_data]))
      rw [this]; decide
    refine (fin false (by rw [hn]; rfl) (by simp)).same fun k => ?_
    rw [if_pos c0]
  · have hpos : 0 < s.size := by
      rcases Nat.eq_zero_or_pos s.size with h | h
      · exfalso
        refine c0 ?_
        rw [toList_data]
        exact List.eq_nil_of_length_eq_zero (by simpa using h)
      · exact h
    have hX : isX (B s) = (bt s 0 == 120 || bt s 0 == 88) := by
      have hh := head_B s 0 hpos
      simp only [List.drop_zero] at hh
      cases hd : B s with
      | nil => rw [hd] at hh; cases hh
      | cons b l => rw [hd] at hh; injection hh with hh; subst hh; rfl
    by_cases c : bt s 0 = 120
    · refine (fin true (by rw [hX, c]; rfl) (fun _ => hpos)).same fun k => ?_
      rw [if_neg c0, if_pos (by omega), if_pos c]
    · refine (fin (bt s 0 == 88) (by rw [hX, show (bt s 0 == 120) = false from beq_eq_false_iff_ne.2 c, Bool.false_or]) (fun _ => hpos)).same fun k => ?_
      rw [if_neg c0, if_pos (by omega), if_neg c]
theorem numbered_calls (s : ByteArray) (hs : s.size < 2 ^ 40) (w : World) : Calls Tryd.prog 77 #[.string s] w fun e w' => e = .returned (.tuple #[.string (S (number (B s)).1), .int .i64 ((number (B s)).2 : Nat)]) ∧ Below w.heap.size w w' := by
  obtain ⟨k, hk⟩ := (inumber_f s (by omega)).some
  exact impl_numbered.calls k s _ _ w hk
end Go.Proofs.YtnjnoabldjodcaaDoor.Tok
set_option linter.unusedVariables false
set_option linter.unusedSimpArgs false
namespace Go.Proofs.YtnjnoabldjodcaaDoor.Tok
open Go.RowKit Go.Proofs.YtnjnoabldjodcaaDoorW.PrintWords Go.Proofs.YtnjnoabldjodcaaDoorW.PrintLast Go.Proofs.YtnjnoabldjodcaaDoorW.PrintMore Go.Proofs.YtnjnoabldjodcaaDoor.PFnExactTokens
theorem ret_bool {a b : Bool} (h : a = b) : Ending.returned (.bool a) = .returned (.bool b) := by rw [h]
theorem iwhite_calls (b : Int) (w : World) : Calls Tryd.prog 61 #[.int .u8 b] w fun e w' => e = .returned (.bool (white b)) ∧ w = w' := by
  obtain ⟨r, hr⟩ : ∃ r, r = white b := ⟨_, rfl⟩
  rw [← hr]
  have HR := Aside0.mk hr
  clear hr
  rcases h1 : (b == 32) with _ | _
  · rcases h2 : (b == 9) with _ | _
    · rcases h3 : (b == 10) with _ | _
      · rcases h4 : (b == 12) with _ | _
        · have HW := Aside0.mk (show white b = (b == 13) by unfold white; rw [h1, h2, h3, h4]; simp)
          go_enter Tryd.func61, Tryd.ntmps61
          go_wp2
          go_ret
          exact ⟨ret_bool (HW.out.symm.trans HR.out.symm), rfl⟩
        · have HW := Aside0.mk (show white b = true by unfold white; rw [h4]; simp)
          go_enter Tryd.func61, Tryd.ntmps61
          go_wp2
          go_ret
          exact ⟨ret_bool (HW.out.symm.trans HR.out.symm), rfl⟩
      · have HW := Aside0.mk (show white b = true by unfold white; rw [h3]; simp)
        go_enter Tryd.func61, Tryd.ntmps61
        go_wp2
        go_ret
        exact ⟨ret_bool (HW.out.symm.trans HR.out.symm), rfl⟩
    · have HW := Aside0.mk (show white b = true by unfold white; rw [h2]; simp)
      go_enter Tryd.func61, Tryd.ntmps61
      go_wp2
      go_ret
      exact ⟨ret_bool (HW.out.symm.trans HR.out.symm), rfl⟩
  · have HW := Aside0.mk (show white b = true by unfold white; rw [h1]; simp)
    go_enter Tryd.func61, Tryd.ntmps61
    go_wp2
    go_ret
    exact ⟨ret_bool (HW.out.symm.trans HR.out.symm), rfl⟩
theorem iletter_calls (b : Int) (w : World) : Calls Tryd.prog 65 #[.int .u8 b] w fun e w' => e = .returned (.bool (letter b)) ∧ w = w' := by
  obtain ⟨r, hr⟩ : ∃ r, r = letter b := ⟨_, rfl⟩
  rw [← hr]
  have HR := Aside0.mk hr
  clear hr
  rcases h1 : decide (97 ≤ b) with _ | _
  · rcases h3 : decide (65 ≤ b) with _ | _
    · have HW := Aside0.mk (show letter b = false by unfold letter; rw [h1, h3]; simp)
      go_enter Tryd.func65, Tryd.ntmps65
      go_wp2
      go_ret
      exact ⟨ret_bool (HW.out.symm.trans HR.out.symm), rfl⟩
    · have HW := Aside0.mk (show letter b = decide (b ≤ 90) by unfold letter; rw [h1, h3]; simp)
      go_enter Tryd.func65, Tryd.ntmps65
      go_wp2
      go_ret
      exact ⟨ret_bool (HW.out.symm.trans HR.out.symm), rfl⟩
  · rcases h2 : decide (b ≤ 122) with _ | _
    · have h3 : decide (65 ≤ b) = true := by simp at h1 ⊢; omega
      have h4 : decide (b ≤ 90) = false := by simp at h2 ⊢; omega
      have HW := Aside0.mk (show letter b = false by unfold letter; rw [h1, h2, h4]; simp)
      go_enter Tryd.func65, Tryd.ntmps65
      go_wp2
      go_ret
      exact ⟨ret_bool (HW.out.symm.trans HR.out.symm), rfl⟩
    · have HW := Aside0.mk (show letter b = true by unfold letter; rw [h1, h2]; simp)
      go_enter Tryd.func65, Tryd.ntmps65
      go_wp2
      go_ret
      exact ⟨ret_bool (HW.out.symm.trans HR.out.symm), rfl⟩
theorem idigit_calls (b : Int) (w : World) : Calls Tryd.prog 78 #[.int .u8 b] w fun e w' => e = .returned (.bool (digit b)) ∧ w = w' := by
  obtain ⟨r, hr⟩ : ∃ r, r = digit b := ⟨_, rfl⟩
  rw [← hr]
  have HR := Aside0.mk hr
  clear hr
  rcases h1 : decide (48 ≤ b) with _ | _
  · have HW := Aside0.mk (show digit b = false by unfold digit; rw [h1]; simp)
    go_enter Tryd.func78, Tryd.ntmps78
    go_wp2
    go_ret
    exact ⟨ret_bool (HW.out.symm.trans HR.out.symm), rfl⟩
  · have HW := Aside0.mk (show digit b = decide (b ≤ 57) by unfold digit; rw [h1]; simp)
    go_enter Tryd.func78, Tryd.ntmps78
    go_wp2
    go_ret
    exact ⟨ret_bool (HW.out.symm.trans HR.out.symm), rfl⟩
theorem dec_beq (a b : Int) : decide (a = b) = (a == b) := by rw [Bool.eq_iff_iff]; simp
theorem endsIn2 (x y b : Int) : endsIn [x, y] b = (white b || (b == x || b == y)) := by
  unfold endsIn
  simp [dec_beq]
theorem ends_name_calls (b : Int) (w : World) : Calls Tryd.prog 39 #[.int .u8 b] w fun e w' => e = .returned (.bool (endsIn [47, 62] b)) ∧ w = w' := by
  obtain ⟨r, hr⟩ : ∃ r, r = endsIn [47, 62] b := ⟨_, rfl⟩
  rw [← hr]
  have HR := Aside0.mk (hr.trans (endsIn2 _ _ _))
  clear hr
  obtain ⟨v, hv⟩ : ∃ v, v = white b := ⟨_, rfl⟩
  have HV := Aside0.mk hv
  clear hv
  cases v with
  | true =>
    go_enter Tryd.func39, Tryd.ntmps39
    go_wp2_with ((go_at_call 61; refine (iwhite_calls b _).mono ?_; rintro e w' ⟨rfl, rfl⟩; rw [← HV.out]))
    go_ret
    exact ⟨ret_bool (by rw [HR.out, ← HV.out]; rfl), rfl⟩
  | false =>
    rcases h1 : (b == 47) with _ | _
    · have HW := Aside0.mk h1
      go_enter Tryd.func39, Tryd.ntmps39
      go_wp2_with ((go_at_call 61; refine (iwhite_calls b _).mono ?_; rintro e w' ⟨rfl, rfl⟩; rw [← HV.out]))
      go_ret
      exact ⟨ret_bool (by rw [HR.out, ← HV.out, HW.out]; simp), rfl⟩
    · have HW := Aside0.mk h1
      go_enter Tryd.func39, Tryd.ntmps39
      go_wp2_with ((go_at_call 61; refine (iwhite_calls b _).mono ?_; rintro e w' ⟨rfl, rfl⟩; rw [← HV.out]))
      go_ret
      exact ⟨ret_bool (by rw [HR.out, ← HV.out, HW.out]; simp), rfl⟩
theorem ends_attr_calls (b : Int) (w : World) : Calls Tryd.prog 81 #[.int .u8 b] w fun e w' => e = .returned (.bool (endsIn [47, 62, 61] b)) ∧ w = w' := by
  obtain ⟨r, hr⟩ : ∃ r, r = endsIn [47, 62, 61] b := ⟨_, rfl⟩
  rw [← hr]
  have HR := Aside0.mk (hr.trans (show endsIn [47, 62, 61] b = (endsIn [47, 62] b || b == 61) by unfold endsIn; simp [Bool.or_assoc, dec_beq]))
  clear hr
  obtain ⟨v, hv⟩ : ∃ v, v = endsIn [47, 62] b := ⟨_, rfl⟩
  have HV := Aside0.mk hv
  clear hv
  cases v with
  | true =>
    go_enter Tryd.func81, Tryd.ntmps81
    go_wp2_with ((go_at_call 39; refine (ends_name_calls b _).mono ?_; rintro e w' ⟨rfl, rfl⟩; rw [← HV.out]))
    go_ret
    exact ⟨ret_bool (by rw [HR.out, ← HV.out]; rfl), rfl⟩
  | false =>
    go_enter Tryd.func81, Tryd.ntmps81
    go_wp2_with ((go_at_call 39; refine (ends_name_calls b _).mono ?_; rintro e w' ⟨rfl, rfl⟩; rw [← HV.out]))
    go_ret
    exact ⟨ret_bool (by rw [HR.out, ← HV.out]; rfl), rfl⟩
theorem ends_value_calls (b : Int) (w : World) : Calls Tryd.prog 88 #[.int .u8 b] w fun e w' => e = .returned (.bool (white b || b == 62)) ∧ w = w' := by
  obtain ⟨r, hr⟩ : ∃ r, r = (white b || b == 62) := ⟨_, rfl⟩
  rw [← hr]
  have HR := Aside0.mk hr
  clear hr
  obtain ⟨v, hv⟩ : ∃ v, v = white b := ⟨_, rfl⟩
  have HV := Aside0.mk hv
  clear hv
  cases v with
  | true =>
    go_enter Tryd.func88, Tryd.ntmps88
    go_wp2_with ((go_at_call 61; refine (iwhite_calls b _).mono ?_; rintro e w' ⟨rfl, rfl⟩; rw [← HV.out]))
    go_ret
    exact ⟨ret_bool (by rw [HR.out, ← HV.out]; rfl), rfl⟩
  | false =>
    go_enter Tryd.func88, Tryd.ntmps88
    go_wp2_with ((go_at_call 61; refine (iwhite_calls b _).mono ?_; rintro e w' ⟨rfl, rfl⟩; rw [← HV.out]))
    go_ret
    exact ⟨ret_bool (by rw [HR.out, ← HV.out]; rfl), rfl⟩
theorem pre_head (s m : ByteArray) (h : m.size ≤ s.size) : ((s.extract 0 m.size).toList == m.toList) = pre (B m) (B s) := by
  rw [Bool.eq_iff_iff]
  unfold pre
  rw [beq_iff_eq, decide_eq_true_iff, toList_eq, B_extract, B_length, List.drop_zero, Nat.sub_zero]
theorem pre_short (s m : ByteArray) (h : s.size < m.size) : pre (B m) (B s) = false := by
  rcases hp : pre (B m) (B s) with _ | _
  · rfl
  · have := pre_length hp
    rw [B_length, B_length] at this
    omega
theorem prefix_calls (s m : ByteArray) (w : World) : Calls Tryd.prog 37 #[.string s, .string m] w fun e w' => e = .returned (.bool (pre (B m) (B s))) ∧ w = w' := by
  obtain ⟨r, hr⟩ : ∃ r, r = pre (B m) (B s) := ⟨_, rfl⟩
  rw [← hr]
  rcases Nat.lt_or_ge s.size m.size with h | h
  · have HR := Aside0.mk (hr.trans (pre_short s m h))
    have h1 : decide (m.size ≤ s.size) = false := decide_eq_false (by omega)
    clear hr h
    go_enter Tryd.func37, Tryd.ntmps37
    go_wp2
    go_ret
    exact ⟨ret_bool (by rw [HR.out]), rfl⟩
  · have HR := Aside0.mk (hr.trans (pre_head s m h).symm)
    have h1 : decide (m.size ≤ s.size) = true := decide_eq_true h
    have h2 : (m.size : Int) ≤ (s.size : Int) := by omega
    clear hr
    go_enter Tryd.func37, Tryd.ntmps37
    go_wp2
    go_ret
    exact ⟨ret_bool (by rw [HR.out]), rfl⟩
end Go.Proofs.YtnjnoabldjodcaaDoor.Tok
set_option linter.unusedVariables false
set_option linter.unusedSimpArgs false
namespace Go.Proofs.YtnjnoabldjodcaaDoor.Tok
open Go.RowKit Go.Proofs.YtnjnoabldjodcaaDoorW.PrintWords Go.Proofs.YtnjnoabldjodcaaDoorW.PrintLast Go.Proofs.YtnjnoabldjodcaaDoorW.PrintMore Go.Proofs.YtnjnoabldjodcaaDoor.PFnExactTokens
def refCells : Array Value := #[.string ⟨#[97, 109, 112]⟩, .int .i64 38, .string ⟨#[108, 116]⟩, .int .i64 60, .string ⟨#[103, 116]⟩, .int .i64 62, .string ⟨#[113, 117, 111, 116]⟩, .int .i64 34, .string ⟨#[110, 98, 115, 112]⟩, .int .i64 160, .string ⟨#[99, 111, 112, 121]⟩, .int .i64 169, .string ⟨#[97, 112, 111, 115]⟩, .int .i64 39, .string ⟨#[115, 104, 121]⟩, .int .i64 173, .string ⟨#[116, 105, 109, 101, 115]⟩, .int .i64 215, .string ⟨#[110, 100, 97, 115, 104]⟩, .int .i64 8211, .string ⟨#[109, 100, 97, 115, 104]⟩, .int .i64 8212, .string ⟨#[104, 101, 108, 108, 105, 112]⟩, .int .i64 8230, .string ⟨#[101, 117, 114, 111]⟩, .int .i64 8364, .string ⟨#[108, 114, 109]⟩, .int .i64 8206, .string ⟨#[114, 108, 109]⟩, .int .i64 8207, .string ⟨#[122, 119, 106]⟩, .int .i64 8205]
def Refs (w : World) : Prop := ∃ t fr, w.heap[0]? = some (.cells refCells t fr)
theorem Refs.below {w w' : World} {b : Nat} (h : Refs w) (hb : Below b w w') (h0 : 0 < b) : Refs w' := by
  obtain ⟨t, fr, h⟩ := h
  exact ⟨t, fr, (hb.block 0 h0).trans h⟩
theorem Refs.pos {w : World} (h : Refs w) : 0 < w.heap.size := by
  obtain ⟨t, fr, h⟩ := h
  exact (Array.getElem?_eq_some_iff.1 h).1
def refName (j : Nat) : ByteArray := nameStrs.getD j ⟨#[]⟩
def refPoint (j : Nat) : Int := points.getD j 0
theorem ref_index0 (w : World) : (Instr.index 93 (.agg refCells) (.int .i64 0)).run Tryd.prog w = .ok (.agg #[.string (refName 0), .int .i64 (refPoint 0)]) w := by kernel_rfl
theorem ref_index1 (w : World) : (Instr.index 93 (.agg refCells) (.int .i64 1)).run Tryd.prog w = .ok (.agg #[.string (refName 1), .int .i64 (refPoint 1)]) w := by kernel_rfl
theorem ref_index2 (w : World) : (Instr.index 93 (.agg refCells) (.int .i64 2)).run Tryd.prog w = .ok (.agg #[.string (refName 2), .int .i64 (refPoint 2)]) w := by kernel_rfl
theorem ref_index3 (w : World) : (Instr.index 93 (.agg refCells) (.int .i64 3)).run Tryd.prog w = .ok (.agg #[.string (refName 3), .int .i64 (refPoint 3)]) w := by kernel_rfl
theorem ref_index4 (w : World) : (Instr.index 93 (.agg refCells) (.int .i64 4)).run Tryd.prog w = .ok (.agg #[.string (refName 4), .int .i64 (refPoint 4)]) w := by kernel_rfl
theorem ref_index5 (w : World) : (Instr.index 93 (.agg refCells) (.int .i64 5)).run Tryd.prog w = .ok (.agg #[.string (refName 5), .int .i64 (refPoint 5)]) w := by kernel_rfl
theorem ref_index6 (w : World) : (Instr.index 93 (.agg refCells) (.int .i64 6)).run Tryd.prog w = .ok (.agg #[.string (refName 6), .int .i64 (refPoint 6)]) w := by kernel_rfl
theorem ref_index7 (w : World) : (Instr.index 93 (.agg refCells) (.int .i64 7)).run Tryd.prog w = .ok (.agg #[.string (refName 7), .int .i64 (refPoint 7)]) w := by kernel_rfl
theorem ref_index8 (w : World) : (Instr.index 93 (.agg refCells) (.int .i64 8)).run Tryd.prog w = .ok (.agg #[.string (refName 8), .int .i64 (refPoint 8)]) w := by kernel_rfl
theorem ref_index9 (w : World) : (Instr.index 93 (.agg refCells) (.int .i64 9)).run Tryd.prog w = .ok (.agg #[.string (refName 9), .int .i64 (refPoint 9)]) w := by kernel_rfl
theorem ref_index10 (w : World) : (Instr.index 93 (.agg refCells) (.int .i64 10)).run Tryd.prog w = .ok (.agg #[.string (refName 10), .int .i64 (refPoint 10)]) w := by kernel_rfl
theorem ref_index11 (w : World) : (Instr.index 93 (.agg refCells) (.int .i64 11)).run Tryd.prog w = .ok (.agg #[.string (refName 11), .int .i64 (refPoint 11)]) w := by kernel_rfl
theorem ref_index12 (w : World) : (Instr.index 93 (.agg refCells) (.int .i64 12)).run Tryd.prog w = .ok (.agg #[.string (refName 12), .int .i64 (refPoint 12)]) w := by kernel_rfl
theorem ref_index13 (w : World) : (Instr.index 93 (.agg refCells) (.int .i64 13)).run Tryd.prog w = .ok (.agg #[.string (refName 13), .int .i64 (refPoint 13)]) w := by kernel_rfl
theorem ref_index14 (w : World) : (Instr.index 93 (.agg refCells) (.int .i64 14)).run Tryd.prog w = .ok (.agg #[.string (refName 14), .int .i64 (refPoint 14)]) w := by kernel_rfl
theorem ref_index15 (w : World) : (Instr.index 93 (.agg refCells) (.int .i64 15)).run Tryd.prog w = .ok (.agg #[.string (refName 15), .int .i64 (refPoint 15)]) w := by kernel_rfl
theorem ref_index (j : Nat) (h : j < 16) (w : World) : (Instr.index 93 (.agg refCells) (.int .i64 (j : Int))).run Tryd.prog w = .ok (.agg #[.string (refName j), .int .i64 (refPoint j)]) w := by
  have h' : j = 0 ∨ j = 1 ∨ j = 2 ∨ j = 3 ∨ j = 4 ∨ j = 5 ∨ j = 6 ∨ j = 7 ∨ j = 8 ∨ j = 9 ∨ j = 10 ∨ j = 11 ∨ j = 12 ∨ j = 13 ∨ j = 14 ∨ j = 15 := by omega
  rcases h' with rfl | rfl | rfl | rfl | rfl | rfl | rfl | rfl | rfl | rfl | rfl | rfl | rfl | rfl | rfl | rfl
  · exact ref_index0 w
  · exact ref_index1 w
  · exact ref_index2 w
  · exact ref_index3 w
  · exact ref_index4 w
  · exact ref_index5 w
  · exact ref_index6 w
  · exact ref_index7 w
  · exact ref_index8 w
  · exact ref_index9 w
  · exact ref_index10 w
  · exact ref_index11 w
  · exact ref_index12 w
  · exact ref_index13 w
  · exact ref_index14 w
  · exact ref_index15 w
theorem ref_info : (Tryd.prog.info? 93).map (·.size) = some refCells.size := by kernel_rfl
theorem fits_no {attr : Bool} {j : Nat} {nm rest : ByteArray} (hp : pre (B nm) (B rest) = false) : fitsRef attr j (B nm) (B rest) = none := by
  unfold fitsRef; rw [hp]; rfl
theorem fits_at {attr : Bool} {j : Nat} {nm rest : ByteArray} (hp : pre (B nm) (B rest) = true) (h : nm.size < rest.size) :
    fitsRef attr j (B nm) (B rest) = if (bt rest (nm.size : Int) == 59) = true then some (nm.size + 2) else if (decide (6 ≤ j) || (attr && (letter (bt rest (nm.size : Int)) || digit (bt rest (nm.size : Int)) || bt rest (nm.size : Int) == 61))) = true then none else some (nm.size + 1) := by
  have hl : nm.size < (B rest).length := by rw [B_length]; exact h
  have hg := B_get rest nm.size h
  have hg2 := hg
  rw [List.getElem?_eq_getElem hl] at hg2
  injection hg2 with hg2
  unfold fitsRef
  rw [hp, if_pos rfl, B_length, pre_cons, pre_nil, hg, List.drop_eq_getElem_cons hl, hg2]
  simp only [Bool.and_true, decide_eq_true_eq, Option.some.injEq, beq_iff_eq]
theorem fits_end {attr : Bool} {j : Nat} {nm rest : ByteArray} (hp : pre (B nm) (B rest) = true) (h : rest.size ≤ nm.size) :
    fitsRef attr j (B nm) (B rest) = if decide (6 ≤ j) = true then none else some (nm.size + 1) := by
  have hd : (B rest).drop nm.size = [] := List.drop_eq_nil_of_le (by rw [B_length]; exact h)
  unfold fitsRef
  rw [hp, if_pos rfl, B_length, hd]
  simp [show pre [59] [] = false from rfl]
theorem ref_step (attr : Bool) (t : Bs) (j : Nat) (hj : j < 16) (b : Best) : refLoop attr t (names.drop j) j b = refLoop attr t (names.drop (j + 1)) (j + 1) (match fitsRef attr j (B (refName j)) t with | none => b | some n => better b j (B (refName j)) n) := by
  have hl : j < names.length := hj
  have e : names[j] = B (refName j) := by
    have hl2 : j < nameStrs.length := hj
    simp only [names, List.getElem_map]
    unfold refName
    rw [List.getD_eq_getElem?_getD, List.getElem?_eq_getElem hl2]
    rfl
  rw [List.drop_eq_getElem_cons hl, e]
  simp only [refLoop]
  rfl
def bestOf (k : Nat) (bn : ByteArray) (n : Nat) : Best := if n = 0 then none else some (k, B bn, n)
structure RefAt (attr : Bool) (t : Bs) (R : Bs × Nat) (j n : Nat) (bn : ByteArray) (bc : Int) : Prop where
  le : j ≤ 16
  best : ∃ k, refOut (refLoop attr t (names.drop j) j (bestOf k bn n)) = R ∧ (n = 0 → bn = ⟨#[]⟩) ∧ (n ≠ 0 → k < 16 ∧ bc = refPoint k) ∧ n ≤ 2 ^ 50
theorem refName_pos (j : Nat) (hj : j < 16) : 0 < (refName j).size ∧ (refName j).size ≤ 100 := by
  have hl : j < nameStrs.length := hj
  have : refName j = nameStrs[j] := by unfold refName; rw [List.getD_eq_getElem?_getD, List.getElem?_eq_getElem hl]; rfl
  rw [this]
  exact names_small _ (List.getElem_mem _)
section
variable {attr : Bool} {rest : ByteArray} {R : Bs × Nat} {j n m : Nat} {bn : ByteArray} {bc : Int}
theorem RefAt.pass (h : RefAt attr (B rest) R j n bn bc) (hj : j < 16) (hf : fitsRef attr j (B (refName j)) (B rest) = none ∨ (refName j).size ≤ bn.size) : RefAt attr (B rest) R (j + 1) n bn bc := by
  obtain ⟨k, h1, h2, h3⟩ := h.best
  refine ⟨hj, k, ?_, h2, h3⟩
  rw [ref_step attr (B rest) j hj] at h1
  rw [← h1]
  congr 2
  rcases hf with hf | hf
  · rw [hf]
  · cases hq : fitsRef attr j (B (refName j)) (B rest) with
    | none => rfl
    | some q =>
      simp only
      unfold bestOf
      by_cases hn : n = 0
      · have := h2 hn
        rw [this] at hf
        have h0 := (refName_pos j hj).1
        have : (⟨#[]⟩ : ByteArray).size = 0 := rfl
        omega
      · rw [if_neg hn]
        unfold better
        simp only
        rw [if_neg (by rw [B_length, B_length]; omega)]
theorem RefAt.take (h : RefAt attr (B rest) R j n bn bc) (hj : j < 16) (hs : bn.size < (refName j).size) (hf : fitsRef attr j (B (refName j)) (B rest) = some m) (hm : 0 < m) (hm2 : m ≤ 2 ^ 50) : RefAt attr (B rest) R (j + 1) m (refName j) (refPoint j) := by
  obtain ⟨k, h1, h2, h3⟩ := h.best
  refine ⟨hj, j, ?_, fun e => by omega, fun _ => ⟨hj, rfl⟩, hm2⟩
  rw [ref_step attr (B rest) j hj, hf] at h1
  rw [← h1]
  congr 2
  simp only
  unfold bestOf
  rw [if_neg (by omega)]
  by_cases hn : n = 0
  · rw [if_pos hn]; rfl
  · rw [if_neg hn]
    unfold better
    simp only
    rw [if_pos (by rw [B_length, B_length]; omega)]
theorem RefAt.none (h : RefAt attr (B rest) R 16 0 bn bc) : R = ([], 0) := by
  obtain ⟨k, h1, _⟩ := h.best
  rw [← h1]
  rfl
theorem RefAt.some (h : RefAt attr (B rest) R 16 n bn bc) (hn : n ≠ 0) : R = (put bc, n) := by
  obtain ⟨k, h1, h2, h3, _⟩ := h.best
  obtain ⟨hk, rfl⟩ := h3 hn
  rw [← h1]
  unfold bestOf
  rw [if_neg hn]
  show refOut (.some (k, B bn, n)) = _
  unfold refOut
  simp only
  congr 2
end
theorem named_put {wr : World} {bn : Nat} {x y : Value} {T : TypeId} (h : wr.heap[bn]? = some (.cells #[x, y] T (0, 0))) (o : Obj) (u v : Value) : (((wr.setCell ⟨bn, 0, none⟩ u).setCell ⟨bn, 1, none⟩ v).alloc o).heap[bn]? = some (.cells #[u, v] T (0, 0)) :=
  (Below.heap_alloc _ o bn (blk_lt (blk_put (blk_put h 0 u rfl) 1 v rfl))).trans (blk_put (blk_put h 0 u rfl) 1 v rfl)
theorem named_below {w wr : World} {bn : Nat} (h : Below bn w wr) (hl : bn < wr.heap.size) (o : Obj) (u v : Value) : Below bn w (((wr.setCell ⟨bn, 0, none⟩ u).setCell ⟨bn, 1, none⟩ v).alloc o) ∧ bn < (((wr.setCell ⟨bn, 0, none⟩ u).setCell ⟨bn, 1, none⟩ v).alloc o).heap.size :=
  ⟨((h.setCell (Nat.le_refl _) _).setCell (Nat.le_refl _) _).alloc (by simp [World.setCell]; omega) _, by simp [World.setCell]; omega⟩
theorem RefAt.start (attr : Bool) (rest : ByteArray) : RefAt attr (B rest) (refOut (refLoop attr (B rest) names 0 Option.none)) 0 0 ⟨#[]⟩ 0 := ⟨Nat.zero_le _, 0, rfl, fun _ => rfl, fun h => absurd rfl h, Nat.zero_le _⟩
set_option maxHeartbeats 4000000 in
set_option maxRecDepth 100000 in
theorem ireference_calls (s : ByteArray) (hs : s.size < 2 ^ 40) (a : Nat) (ha : a < s.size) (attr : Bool) (w : World) (hR : Refs w) :
    Calls Tryd.prog 62 #[.string s, .int .i64 a, .bool attr] w fun e w' => e = .returned (.tuple #[.string (S (reference attr ((B s).drop a)).1), .int .i64 ((reference attr ((B s).drop a)).2 : Nat)]) ∧ Below w.heap.size w w' := by
  have hL : (B s).length = s.size := B_length s
  have h38 : pre [38] ((B s).drop a) = (bt s (a : Int) == 38) := by
    rw [pre_cons, B_get s a ha, Bool.eq_iff_iff]
    simp [pre_nil]
  have HREF := Aside0.mk hR
  have hlt : (a : Int) < (s.size : Int) := by omega
  have hd0 : decide ((s.size : Int) ≤ (a : Int)) = false := decide_eq_false (by omega)
  have hd1 : decide (s.size ≤ a) = false := decide_eq_false (by omega)
  rcases hc : (bt s (a : Int) == 38) with _ | _
  · have HR := Aside0.mk (show reference attr ((B s).drop a) = ([], 0) by unfold reference; rw [h38, hc]; rfl)
    have hne : (bt s (a : Int) != 38) = true := by rw [bne, hc]; rfl
    clear h38 hL hR
    go_enter Tryd.func62, Tryd.ntmps62
    have hx := bt_at s (a : Int)
    rw [Int.toNat_natCast] at hx
    go_wp2
    exact bodyPost_ret (v := .tuple #[.string ⟨#[]⟩, .int .i64 0]) (by simp [results, Tryd.results62, go_sem]) rfl ⟨by rw [HR.out]; rfl, Below.refl _ _⟩
  · have hne : (bt s (a : Int) != 38) = false := by rw [bne, hc]; rfl
    obtain ⟨rest, hrest⟩ : ∃ rest, rest = s.extract (a + 1) s.size := ⟨_, rfl⟩
    have hBr : B rest = (B s).drop (a + 1) := by rw [hrest, B_extract, List.take_of_length_le]; rw [List.length_drop, hL]; exact Nat.le_refl _
    have hrs : rest.size = s.size - (a + 1) := by rw [← B_length, hBr, List.length_drop, hL]
    have hx := bt_at s (a : Int)
    rw [Int.toNat_natCast] at hx
    have ea : ((a : Int) + 1).toNat = a + 1 := by omega
    have HRS := Aside0.mk hrs
    have HB := Aside0.mk hBr
    have H38 := Aside0.mk (h38.trans hc)
    have HX := Aside0.mk hrest
    clear hBr hrs h38 hL hR hrest
    go_enter Tryd.func62, Tryd.ntmps62
    go_upto_region 4 with (fail)
    clear hx ea hne hc hd0 hd1 hlt
    rw [← HX.out]
    rcases hp : pre [35] (B rest) with _ | _
    · have HP := Aside0.mk (show reference attr ((B s).drop a) = refOut (refLoop attr (B rest) names 0 Option.none) by
        unfold reference
        rw [H38.out, if_pos rfl, HB.out, show pre [38, 35] ((B s).drop a) = (decide ((B s)[a]? = some 38) && pre [35] ((B s).drop (a + 1))) from pre_cons _ _ _ _, ← HB.out, hp, Bool.and_false, if_neg (by decide), HB.out, List.drop_drop])
      have HNP := Aside0.mk hp
      clear hp
      go_upto_region 8 with ((go_at_call 37; refine (prefix_calls rest ⟨#[35]⟩ _).mono ?_; rintro e w8 ⟨rfl, rfl⟩; rw [show B ⟨#[35]⟩ = [35] from by decide, HNP.out]))
      have HW1 := Aside0.mk (Below.alloc (Below.refl w.heap.size w) (Nat.le_refl _) (.cells #[.string ⟨#[]⟩, .int .i64 0] 92))
      have HBK := Aside0.mk (heap_alloc_new w (.cells #[.string ⟨#[]⟩, .int .i64 0] 92))
      generalize hw1 : World.alloc _ _ = w1
      rw [hw1] at HW1 HBK
      have HR1 := Aside0.mk (HREF.out.below HW1.out HREF.out.pos)
      have HBN := Aside0.mk HREF.out.pos
      generalize hbn : w.heap.size = bn at HW1 HBK HBN ⊢
      have HBE := Aside0.mk hbn
      clear hbn
      obtain ⟨t0, fr0, hr0⟩ := HR1.out
      have HR0 := Aside0.mk hr0
      clear hw1 hr0 hs ha
      go_upto_region 9 with (((with_reducible refine gate_dst (N := 40) rfl ?_); refine wpList_load_row rfl 93 (.global 0) rfl 0 rfl t0 refCells fr0 _ HR0.out Tryd.underlying93 rfl ref_info ?_))
      obtain ⟨R, hR⟩ : ∃ R, R = refOut (refLoop attr (B rest) names 0 Option.none) := ⟨_, rfl⟩
      have HRR := Aside0.mk hR
      have HPR := Aside0.mk (HP.out.trans hR.symm)
      clear hR HP
      go_loopg [10, 41] 17 (fun kq v10 v41 wr => ∃ (j n : Nat) (bs : ByteArray) (bc : Int), v10 = .int .i64 n ∧ v41 = .int .i64 j ∧ Aside0 (wr.heap[bn]? = some (.cells #[.string bs, .int .i64 bc] 92 (0, 0))) ∧ Aside0 (RefAt attr (B rest) R j n bs bc ∧ j + kq = 17) ∧ Aside0 (Below bn w wr ∧ bn < wr.heap.size))
      case atStart => exact ⟨0, 0, ⟨#[]⟩, 0, rfl, rfl, HBK, ⟨by rw [HRR.out]; exact RefAt.start attr rest, rfl⟩, ⟨HW1.out, blk_lt HBK.out⟩⟩
      case round =>
        obtain ⟨j, n, bs, bc, rfl, rfl, HB9, HJ, HBW⟩ := hrel
        by_cases hj : j < 16
        · obtain ⟨g, rfl⟩ : ∃ g, gk = g + 1 := ⟨gk - 1, by have := HJ.out.2; omega⟩
          --ROUND
          have hd : decide ((j : Int) < 16) = true := decide_eq_true (by omega)
          have hj16 : (j : Int) < 16 := by omega
          have hidx := fun W => ref_index j hj W
          have HJN := Aside0.mk hj
          obtain ⟨nm, hnm⟩ : ∃ nm, nm = refName j := ⟨_, rfl⟩
          obtain ⟨pt, hpt⟩ : ∃ pt, pt = refPoint j := ⟨_, rfl⟩
          have hn100 : (nm.size : Int) ≤ 100 := by rw [hnm]; have := (refName_pos j hj).2; omega
          rw [← hnm, ← hpt] at hidx
          have HNM := Aside0.mk (And.intro hnm.symm hpt.symm)
          have HN100 := Aside0.mk hn100
          have hc0 := blk_cell HB9.out 0
          have hc1 := blk_cell HB9.out 1
          have hf0 := blk_frozen HB9.out 0
          have hf1 := blk_frozen HB9.out 1
          have hbl := HBW.out.2
          have hx2 := bt_at rest (nm.size : Int)
          rw [Int.toNat_natCast] at hx2
          have FNO := @fits_no attr j nm rest
          have FAT := @fits_at attr j nm rest
          have FEN := @fits_end attr j nm rest
          have FF := Aside0.mk (And.intro FNO (And.intro FAT FEN))
          clear hnm hpt hj FNO FAT FEN
          rcases hp : pre (B nm) (B rest) with _ | _
          · have HNP := Aside0.mk hp
            clear hp
            go_wp2_with ((go_at_call 37; refine (prefix_calls rest nm _).mono ?_; rintro e w8 ⟨rfl, rfl⟩; rw [HNP.out]))
            go_roundg g
            case measure => omega
            case rel => exact ⟨j + 1, n, bs, bc, rfl, rfl, ⟨(Below.heap_alloc _ _ bn (HBW.out.2)).trans HB9.out⟩, ⟨HJ.out.1.pass HJN.out (.inl (by rw [HNM.out.1]; exact FF.out.1 HNP.out)), by have := HJ.out.2; omega⟩, ⟨HBW.out.1.alloc (Nat.le_of_lt HBW.out.2) _, by have := HBW.out.2; simp; omega⟩⟩
          · have HNP := Aside0.mk hp
            clear hp
            by_cases hsz : nm.size ≤ bs.size
            · have HSZ := Aside0.mk hsz
              have hdz : decide (nm.size ≤ bs.size) = true := decide_eq_true hsz
              clear hsz
              go_wp2_with ((go_at_call 37; refine (prefix_calls rest nm _).mono ?_; rintro e w8 ⟨rfl, rfl⟩; rw [HNP.out]))
              go_roundg g
              case measure => omega
              case rel => exact ⟨j + 1, n, bs, bc, rfl, rfl, ⟨(Below.heap_alloc _ _ bn (HBW.out.2)).trans HB9.out⟩, ⟨HJ.out.1.pass HJN.out (.inr (by rw [HNM.out.1]; exact HSZ.out)), by have := HJ.out.2; omega⟩, ⟨HBW.out.1.alloc (Nat.le_of_lt HBW.out.2) _, by have := HBW.out.2; simp; omega⟩⟩
            · have HSZ := Aside0.mk (Nat.lt_of_not_le hsz)
              have hdz : decide (nm.size ≤ bs.size) = false := decide_eq_false hsz
              clear hsz
              by_cases hlt : nm.size < rest.size
              · have HLT := Aside0.mk hlt
                have hdl : decide (nm.size < rest.size) = true := decide_eq_true hlt
                have hlti : (nm.size : Int) < (rest.size : Int) := by omega
                rcases h59 : (bt rest (nm.size : Int) == 59) with _ | _
                · have H59 := Aside0.mk h59
                  by_cases hj6 : j < 6
                  · have hd6 : decide ((j : Int) < 6) = true := decide_eq_true (by omega)
                    have HJ6 := Aside0.mk (show decide (6 ≤ j) = false from decide_eq_false (by omega))
                    clear hj6
                    cases attr with
                    | false =>
                      go_wp2_with ((go_at_call 37; refine (prefix_calls rest nm _).mono ?_; rintro e w8 ⟨rfl, rfl⟩; rw [HNP.out]))
                      go_roundg g
                      case measure => omega
                      case rel => exact ⟨j + 1, _, nm, pt, by rfl, rfl, ⟨named_put HB9.out _ _ _⟩, ⟨by have h := HJ.out.1.take HJN.out (by rw [HNM.out.1]; exact HSZ.out) (by rw [HNM.out.1, FF.out.2.1 HNP.out HLT.out, H59.out, HJ6.out]; rfl) (by omega) (by have := HN100.out; omega); rw [HNM.out.1, HNM.out.2] at h; exact h, by have := HJ.out.2; omega⟩, ⟨named_below HBW.out.1 HBW.out.2 _ _ _⟩⟩
                    | true =>
                      rcases hle : letter (bt rest (nm.size : Int)) with _ | _
                      · have HLE := Aside0.mk hle
                        clear hle
                        rcases hdi : digit (bt rest (nm.size : Int)) with _ | _
                        · have HDI := Aside0.mk hdi
                          clear hdi
                          rcases h61 : (bt rest (nm.size : Int) == 61) with _ | _
                          · have H61 := Aside0.mk h61
                            go_wp2_with (first | (go_at_call 37; refine (prefix_calls rest nm _).mono ?_; rintro e w8 ⟨rfl, rfl⟩; rw [HNP.out]) | (go_at_call 65; refine (iletter_calls (bt rest (nm.size : Int)) _).mono ?_; rintro e w8 ⟨rfl, rfl⟩; rw [HLE.out]) | (go_at_call 78; refine (idigit_calls (bt rest (nm.size : Int)) _).mono ?_; rintro e w8 ⟨rfl, rfl⟩; rw [HDI.out]))
                            go_roundg g
                            case measure => omega
                            case rel => exact ⟨j + 1, _, nm, pt, by rfl, rfl, ⟨named_put HB9.out _ _ _⟩, ⟨by have h := HJ.out.1.take HJN.out (by rw [HNM.out.1]; exact HSZ.out) (by rw [HNM.out.1, FF.out.2.1 HNP.out HLT.out, H59.out, HJ6.out, HLE.out, HDI.out, H61.out]; rfl) (by omega) (by have := HN100.out; omega); rw [HNM.out.1, HNM.out.2] at h; exact h, by have := HJ.out.2; omega⟩, ⟨named_below HBW.out.1 HBW.out.2 _ _ _⟩⟩
                          · have H61 := Aside0.mk h61
                            go_wp2_with (first | (go_at_call 37; refine (prefix_calls rest nm _).mono ?_; rintro e w8 ⟨rfl, rfl⟩; rw [HNP.out]) | (go_at_call 65; refine (iletter_calls (bt rest (nm.size : Int)) _).mono ?_; rintro e w8 ⟨rfl, rfl⟩; rw [HLE.out]) | (go_at_call 78; refine (idigit_calls (bt rest (nm.size : Int)) _).mono ?_; rintro e w8 ⟨rfl, rfl⟩; rw [HDI.out]))
                            go_roundg g
                            case measure => omega
                            case rel => exact ⟨j + 1, n, bs, bc, rfl, rfl, ⟨(Below.heap_alloc _ _ bn (HBW.out.2)).trans HB9.out⟩, ⟨HJ.out.1.pass HJN.out (.inl (by rw [HNM.out.1, FF.out.2.1 HNP.out HLT.out, H59.out, HJ6.out, HLE.out, HDI.out, H61.out]; rfl)), by have := HJ.out.2; omega⟩, ⟨HBW.out.1.alloc (Nat.le_of_lt HBW.out.2) _, by have := HBW.out.2; simp; omega⟩⟩
                        · have HDI := Aside0.mk hdi
                          clear hdi
                          go_wp2_with (first | (go_at_call 37; refine (prefix_calls rest nm _).mono ?_; rintro e w8 ⟨rfl, rfl⟩; rw [HNP.out]) | (go_at_call 65; refine (iletter_calls (bt rest (nm.size : Int)) _).mono ?_; rintro e w8 ⟨rfl, rfl⟩; rw [HLE.out]) | (go_at_call 78; refine (idigit_calls (bt rest (nm.size : Int)) _).mono ?_; rintro e w8 ⟨rfl, rfl⟩; rw [HDI.out]))
                          go_roundg g
                          case measure => omega
                          case rel => exact ⟨j + 1, n, bs, bc, rfl, rfl, ⟨(Below.heap_alloc _ _ bn (HBW.out.2)).trans HB9.out⟩, ⟨HJ.out.1.pass HJN.out (.inl (by rw [HNM.out.1, FF.out.2.1 HNP.out HLT.out, H59.out, HJ6.out, HLE.out, HDI.out]; rfl)), by have := HJ.out.2; omega⟩, ⟨HBW.out.1.alloc (Nat.le_of_lt HBW.out.2) _, by have := HBW.out.2; simp; omega⟩⟩
                      · have HLE := Aside0.mk hle
                        clear hle
                        go_wp2_with (first | (go_at_call 37; refine (prefix_calls rest nm _).mono ?_; rintro e w8 ⟨rfl, rfl⟩; rw [HNP.out]) | (go_at_call 65; refine (iletter_calls (bt rest (nm.size : Int)) _).mono ?_; rintro e w8 ⟨rfl, rfl⟩; rw [HLE.out]))
                        go_roundg g
                        case measure => omega
                        case rel => exact ⟨j + 1, n, bs, bc, rfl, rfl, ⟨(Below.heap_alloc _ _ bn (HBW.out.2)).trans HB9.out⟩, ⟨HJ.out.1.pass HJN.out (.inl (by rw [HNM.out.1, FF.out.2.1 HNP.out HLT.out, H59.out, HJ6.out, HLE.out]; rfl)), by have := HJ.out.2; omega⟩, ⟨HBW.out.1.alloc (Nat.le_of_lt HBW.out.2) _, by have := HBW.out.2; simp; omega⟩⟩
                  · have hd6 : decide ((j : Int) < 6) = false := decide_eq_false (by omega)
                    have HJ6 := Aside0.mk (show decide (6 ≤ j) = true from decide_eq_true (by omega))
                    clear hj6
                    go_wp2_with ((go_at_call 37; refine (prefix_calls rest nm _).mono ?_; rintro e w8 ⟨rfl, rfl⟩; rw [HNP.out]))
                    go_roundg g
                    case measure => omega
                    case rel => exact ⟨j + 1, n, bs, bc, rfl, rfl, ⟨(Below.heap_alloc _ _ bn (HBW.out.2)).trans HB9.out⟩, ⟨HJ.out.1.pass HJN.out (.inl (by rw [HNM.out.1, FF.out.2.1 HNP.out HLT.out, H59.out, HJ6.out]; rfl)), by have := HJ.out.2; omega⟩, ⟨HBW.out.1.alloc (Nat.le_of_lt HBW.out.2) _, by have := HBW.out.2; simp; omega⟩⟩
                · have H59 := Aside0.mk h59
                  go_wp2_with ((go_at_call 37; refine (prefix_calls rest nm _).mono ?_; rintro e w8 ⟨rfl, rfl⟩; rw [HNP.out]))
                  go_roundg g
                  case measure => omega
                  case rel => exact ⟨j + 1, _, nm, pt, by rfl, rfl, ⟨named_put HB9.out _ _ _⟩, ⟨by have h := HJ.out.1.take HJN.out (by rw [HNM.out.1]; exact HSZ.out) (by rw [HNM.out.1, FF.out.2.1 HNP.out HLT.out, H59.out]; rfl) (by omega) (by have := HN100.out; omega); rw [HNM.out.1, HNM.out.2] at h; exact h, by have := HJ.out.2; omega⟩, ⟨named_below HBW.out.1 HBW.out.2 _ _ _⟩⟩
              · have HLT := Aside0.mk (Nat.le_of_not_lt hlt)
                have hdl : decide (nm.size < rest.size) = false := decide_eq_false hlt
                clear hlt hx2
                by_cases hj6 : j < 6
                · have hd6 : decide ((j : Int) < 6) = true := decide_eq_true (by omega)
                  have HJ6 := Aside0.mk (show decide (6 ≤ j) = false from decide_eq_false (by omega))
                  clear hj6
                  cases attr with
                  | false =>
                    go_wp2_with ((go_at_call 37; refine (prefix_calls rest nm _).mono ?_; rintro e w8 ⟨rfl, rfl⟩; rw [HNP.out]))
                    go_roundg g
                    case measure => omega
                    case rel => exact ⟨j + 1, _, nm, pt, by rfl, rfl, ⟨named_put HB9.out _ _ _⟩, ⟨by have h := HJ.out.1.take HJN.out (by rw [HNM.out.1]; exact HSZ.out) (by rw [HNM.out.1, FF.out.2.2 HNP.out HLT.out, HJ6.out]; rfl) (by omega) (by have := HN100.out; omega); rw [HNM.out.1, HNM.out.2] at h; exact h, by have := HJ.out.2; omega⟩, ⟨named_below HBW.out.1 HBW.out.2 _ _ _⟩⟩
                  | true =>
                    go_wp2_with ((go_at_call 37; refine (prefix_calls rest nm _).mono ?_; rintro e w8 ⟨rfl, rfl⟩; rw [HNP.out]))
                    go_roundg g
                    case measure => omega
                    case rel => exact ⟨j + 1, _, nm, pt, by rfl, rfl, ⟨named_put HB9.out _ _ _⟩, ⟨by have h := HJ.out.1.take HJN.out (by rw [HNM.out.1]; exact HSZ.out) (by rw [HNM.out.1, FF.out.2.2 HNP.out HLT.out, HJ6.out]; rfl) (by omega) (by have := HN100.out; omega); rw [HNM.out.1, HNM.out.2] at h; exact h, by have := HJ.out.2; omega⟩, ⟨named_below HBW.out.1 HBW.out.2 _ _ _⟩⟩
                · have hd6 : decide ((j : Int) < 6) = false := decide_eq_false (by omega)
                  have HJ6 := Aside0.mk (show decide (6 ≤ j) = true from decide_eq_true (by omega))
                  clear hj6
                  go_wp2_with ((go_at_call 37; refine (prefix_calls rest nm _).mono ?_; rintro e w8 ⟨rfl, rfl⟩; rw [HNP.out]))
                  go_roundg g
                  case measure => omega
                  case rel => exact ⟨j + 1, n, bs, bc, rfl, rfl, ⟨(Below.heap_alloc _ _ bn (HBW.out.2)).trans HB9.out⟩, ⟨HJ.out.1.pass HJN.out (.inl (by rw [HNM.out.1, FF.out.2.2 HNP.out HLT.out, HJ6.out]; rfl)), by have := HJ.out.2; omega⟩, ⟨HBW.out.1.alloc (Nat.le_of_lt HBW.out.2) _, by have := HBW.out.2; simp; omega⟩⟩
          --END
        · have hj' : j = 16 := by have := HJ.out.1.le; omega
          subst hj'
          have hd : decide (((16 : Nat) : Int) < 16) = false := by decide
          clear hj
          by_cases hn : n = 0
          · subst hn
            have HE := Aside0.mk (HJ.out.1.none)
            go_wp2
            refine bodyPost_ret (v := .tuple #[.string ⟨#[]⟩, .int .i64 0]) (by simp [results, Tryd.results62, go_sem]) rfl ⟨by rw [HPR.out, HE.out]; rfl, (by rw [HBE.out]; exact HBW.out.1)⟩
          · have HE := Aside0.mk (HJ.out.1.some hn)
            have hn1 : ((n : Int) == 0) = false := by rw [beq_eq_false_iff_ne]; omega
            have hc1 := blk_cell HB9.out 1
            have hbl := HBW.out.2
            have hnn : ((n : Nat) == 0) = false := by rw [beq_eq_false_iff_ne]; exact hn
            clear hn
            go_wp2_with ((go_at_call 79; refine (encode_calls _ ⟨wr.heap.size, 0, none⟩ 1 bc (by simp) (by simp)).mono ?_; rintro e w8 ⟨rfl, hb8⟩; have HB8 := Aside0.mk hb8; clear hb8))
            refine bodyPost_ret (v := .tuple #[.string (S (put bc)), .int .i64 n]) (by simp [results, Tryd.results62, go_sem]) rfl ⟨by rw [HPR.out, HE.out], (by rw [HBE.out]; have h1 := below_one wr (.cells #[.int .i64 bc] 3); exact (HBW.out.1.trans (h1.mono (Nat.le_of_lt HBW.out.2))).trans (HB8.out.mono (by have := HBW.out.2; simp; omega)))⟩
    · have HP := Aside0.mk (show reference attr ((B s).drop a) = number ((B rest).drop 1) by
        unfold reference
        rw [H38.out, if_pos rfl, show pre [38, 35] ((B s).drop a) = (decide ((B s)[a]? = some 38) && pre [35] ((B s).drop (a + 1))) from pre_cons _ _ _ _, ← HB.out, hp, B_get s a ha, HB.out, List.drop_drop, List.drop_drop]
        have := H38.out
        rw [pre_cons, B_get s a ha, pre_nil, Bool.and_true] at this
        rw [this, Bool.true_and, if_pos rfl, List.drop_drop])
      have hlen : 1 ≤ rest.size := by
        have := pre_length hp
        rw [B_length] at this
        exact this
      have HNP := Aside0.mk hp
      have HN := Aside0.mk (show B (rest.extract 1 rest.size) = (B rest).drop 1 by rw [B_extract, List.take_of_length_le]; rw [List.length_drop, B_length]; exact Nat.le_refl _)
      have HNS := Aside0.mk (show (rest.extract 1 rest.size).size < 2 ^ 40 by rw [← B_length, HN.out, List.length_drop, B_length, HRS.out]; omega)
      clear hp
      go_wp2_with (first | (go_at_call 37; refine (prefix_calls rest ⟨#[35]⟩ _).mono ?_; rintro e w8 ⟨rfl, rfl⟩; rw [show B ⟨#[35]⟩ = [35] from by decide, HNP.out]) | (go_at_call 77; refine (numbered_calls (rest.extract 1 rest.size) HNS.out _).mono ?_; rintro e w8 ⟨rfl, hb8⟩; rw [HN.out]; have HB8 := Aside0.mk hb8; clear hb8))
      refine bodyPost_ret (v := .tuple #[.string (S (number ((B rest).drop 1)).1), .int .i64 ((number ((B rest).drop 1)).2 : Nat)]) (by simp [results, Tryd.results62, go_sem]) rfl ⟨by rw [HP.out], HB8.out⟩
end Go.Proofs.YtnjnoabldjodcaaDoor.Tok
