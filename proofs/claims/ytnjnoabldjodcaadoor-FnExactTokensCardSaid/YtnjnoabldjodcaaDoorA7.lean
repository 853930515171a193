/- Part 7 of the proof: TokRefs, TokTag, TokMark. -/
import Derived.Test.YtnjnoabldjodcaaDoorA6
set_option linter.unusedVariables false
set_option linter.unusedSimpArgs false
namespace Go.Proofs.YtnjnoabldjodcaaDoor.Tok
open Go.RowKit Go.Proofs.YtnjnoabldjodcaaDoorW.PrintWords Go.Proofs.YtnjnoabldjodcaaDoor.PFnExactTokens
def fitsRef (attr : Bool) (k : Nat) (w t : Bs) : Option Nat :=
  if pre w t then
    if pre [59] (t.drop w.length) then some (w.length + 2)
    else if decide (6 ≤ k) || (attr && (match t.drop w.length with | b :: _ => letter b || digit b || b == 61 | [] => false)) then none else some (w.length + 1)
  else none
abbrev Best := Option (Nat × Bs × Nat)
def better (b : Best) (k : Nat) (w : Bs) (n : Nat) : Best :=
  match b with
  | none => some (k, w, n)
  | some (j, w', n') => if w'.length < w.length then some (k, w, n) else some (j, w', n')
def refLoop (attr : Bool) (t : Bs) : List Bs → Nat → Best → Best
  | [], _, b => b
  | w :: ws, k, b => refLoop attr t ws (k + 1) (match fitsRef attr k w t with | none => b | some n => better b k w n)
def points : List Int := [38, 60, 62, 34, 160, 169, 39, 173, 215, 8211, 8212, 8230, 8364, 8206, 8207, 8205]
def refOut : Best → Bs × Nat
  | none => ([], 0)
  | some (k, _, n) => (put (rd points (k : Int)), n)
def BestAt (nm : List ByteArray) (b : Best) (x8 x9 : Int) : Prop :=
  match b with
  | none => x8 = -1
  | some (j, w, n) => x8 = (j : Int) ∧ j < nm.length ∧ w = B (nm.getD j ByteArray.empty) ∧ x9 = (n : Int)
theorem ref_l0 (s : ByteArray) (hs : s.size < 2 ^ 46) (a : Nat) (ha : a < s.size) (attr : Bool) (nm : List ByteArray) (hn : nm.length ≤ 16) (hw : ∀ w ∈ nm, 0 < w.size ∧ w.size ≤ 100) (hp : spec_l2Points.f = some points) :
    ∀ (d k : Nat) (b : Best) (x8 x9 : Int), k + d = nm.length → BestAt nm b x8 x9 →
    Ev (fun r => spec_Reference.l0 r s a attr x8 x9 nm k) (S (refOut (refLoop attr ((B s).drop (a + 1)) ((nm.drop k).map B) k b)).1, ((refOut (refLoop attr ((B s).drop (a + 1)) ((nm.drop k).map B) k b)).2 : Int)) := by
  intro d
  induction d with
  | zero =>
    intro k b x8 x9 hk hb
    rw [show nm.drop k = [] from List.drop_eq_nil_of_le (by omega)]
    simp only [List.map_nil, refLoop]
    cases b with
    | none =>
      have : x8 = -1 := hb
      subst this
      exact Ev.done fun r => by simp only [spec_Reference.l0]; rw [if_neg (by omega), if_pos (by omega)]; rfl
    | some q =>
      obtain ⟨j, w, n⟩ := q
      obtain ⟨rfl, hj, _, rfl⟩ := hb
      have := put_f (rd points (j : Int))
      refine Ev.step (g := fun r => (spec_l1Put.f r [] (rd points (j : Int))).bind fun t => some (strOfNums t, (n : Int))) (Ev.bind this (Ev.const _)) fun r => ?_
      simp only [spec_Reference.l0]
      rw [if_neg (by omega), if_neg (by omega), hp]
      simp only [Option.bind_some]
      rw [if_pos (by omega), if_pos (by simp [points]; omega)]
  | succ d ih =>
    intro k b x8 x9 hk hb
    have hkl : k < nm.length := by omega
    rw [List.drop_eq_getElem_cons hkl, List.map_cons]
    simp only [refLoop]
    have hrd : rdOf ByteArray.empty nm (k : Int) = nm[k] := by simp [rdOf, hkl]
    obtain ⟨w, hwk⟩ : ∃ w, nm[k] = w := ⟨_, rfl⟩
    rw [hwk] at hrd ⊢
    have hwm := hw w (by rw [← hwk]; exact List.getElem_mem hkl)
    have hst := stands_f s w hs (by omega) hwm.1 (a + 1)
    have ea : wrap64 ((a : Int) + 1) = ((a + 1 : Nat) : Int) := by rw [w64 (by omega) (by omega)]; rfl
    have e1 : wrap64 (1 + (w.size : Int)) = ((w.size + 1 : Nat) : Int) := by rw [w64 (by omega) (by omega)]; omega
    have e2 : wrap64 ((a : Int) + ((w.size + 1 : Nat) : Int)) = ((a + 1 + w.size : Nat) : Int) := by rw [w64 (by omega) (by omega)]; omega
    have hs9 := stands_f s ⟨#[59]⟩ hs (by decide) (by decide) (a + 1 + w.size)
    have hdd : ((B s).drop (a + 1)).drop (B w).length = (B s).drop (a + 1 + w.size) := by rw [List.drop_drop, B_length]
    have e59 : B ⟨#[59]⟩ = [59] := by decide
    rw [e59] at hs9
    have ek : wrap64 ((k : Int) + 1) = ((k + 1 : Nat) : Int) := by rw [w64 (by omega) (by omega)]; rfl
    have hgo : ∀ (b' : Best) (x8' x9' : Int), BestAt nm b' x8' x9' → Ev (fun r => spec_Reference.l0 r s a attr x8' x9' nm (wrap64 ((k : Int) + 1))) (S (refOut (refLoop attr ((B s).drop (a + 1)) ((nm.drop (k + 1)).map B) (k + 1) b')).1, ((refOut (refLoop attr ((B s).drop (a + 1)) ((nm.drop (k + 1)).map B) (k + 1) b')).2 : Int)) := fun b' x8' x9' h => by
      rw [ek]
      exact ih (k + 1) b' x8' x9' (by omega) h
    have hbest : ∀ (n : Nat) (x : Int), x = (n : Int) → Ev (fun r => if x8 < 0 then spec_Reference.l0 r s a attr k x nm (wrap64 ((k : Int) + 1)) else if 0 ≤ x8 then if x8 < (nm.length : Int) then if (w.size : Int) > ((rdOf ByteArray.empty nm x8).size : Int) then spec_Reference.l0 r s a attr k x nm (wrap64 ((k : Int) + 1)) else spec_Reference.l0 r s a attr x8 x9 nm (wrap64 ((k : Int) + 1)) else none else none)
        (S (refOut (refLoop attr ((B s).drop (a + 1)) ((nm.drop (k + 1)).map B) (k + 1) (better b k (B w) n))).1, ((refOut (refLoop attr ((B s).drop (a + 1)) ((nm.drop (k + 1)).map B) (k + 1) (better b k (B w) n))).2 : Int)) := fun n x hx => by
      have hnew : BestAt nm (some (k, B w, n)) k x := ⟨rfl, hkl, by rw [List.getD_eq_getElem?_getD, List.getElem?_eq_getElem hkl, hwk]; rfl, hx⟩
      cases b with
      | none =>
        have e8 : x8 = -1 := hb
        exact (hgo _ _ _ hnew).same fun r => by rw [if_pos (by omega)]
      | some q =>
        obtain ⟨j, w', n'⟩ := q
        have hb' := hb
        obtain ⟨e8, hj, ew, e9⟩ := hb
        have hrj : rdOf ByteArray.empty nm x8 = nm.getD j ByteArray.empty := by rw [e8]; simp [rdOf]
        have hsz : w'.length = (rdOf ByteArray.empty nm x8).size := by rw [ew, B_length, hrj]
        by_cases c : w'.length < (B w).length
        · rw [show better (some (j, w', n')) k (B w) n = some (k, B w, n) from by unfold better; simp only [c, if_true]]
          rw [B_length] at c
          exact (hgo _ _ _ hnew).same fun r => by rw [if_neg (by omega), if_pos (by omega), if_pos (by omega), if_pos (by omega)]
        · rw [show better (some (j, w', n')) k (B w) n = some (j, w', n') from by unfold better; simp only [c, if_false]]
          rw [B_length] at c
          exact (hgo _ _ _ hb').same fun r => by rw [if_neg (by omega), if_pos (by omega), if_pos (by omega), if_neg (by omega)]
    have hj1 : ∀ c : Bool, Ev (fun r => spec_Reference.j1 r s a attr x8 x9 nm k (wrap64 (1 + (w.size : Int))) c) (S (refOut (refLoop attr ((B s).drop (a + 1)) ((nm.drop (k + 1)).map B) (k + 1) (if c = true then b else better b k (B w) ((B w).length + 1)))).1, ((refOut (refLoop attr ((B s).drop (a + 1)) ((nm.drop (k + 1)).map B) (k + 1) (if c = true then b else better b k (B w) ((B w).length + 1)))).2 : Int)) := fun c => by
      cases c with
      | true =>
        simp only [if_true]
        exact (hgo b x8 x9 hb).step fun r => by simp only [spec_Reference.j1, if_true]
      | false =>
        simp only [Bool.false_eq_true, if_false]
        refine (hbest ((B w).length + 1) (wrap64 (1 + (w.size : Int))) (by rw [e1, B_length])).step fun r => ?_
        simp only [spec_Reference.j1, Bool.false_eq_true, if_false, hrd]
        by_cases c8 : x8 < 0
        · rw [if_pos c8, if_pos c8]
        · rw [if_neg c8, if_neg c8, if_pos (by omega), if_pos (by omega)]
    have hl0 : ∀ (bb : Best) (g : Nat → Option (ByteArray × Int)), (Ev g (S (refOut (refLoop attr ((B s).drop (a + 1)) ((nm.drop (k + 1)).map B) (k + 1) bb)).1, ((refOut (refLoop attr ((B s).drop (a + 1)) ((nm.drop (k + 1)).map B) (k + 1) bb)).2 : Int))) → (match fitsRef attr k (B w) ((B s).drop (a + 1)) with | none => b | some n => better b k (B w) n) = bb → (∀ r, spec_Reference.l0 (r + 1) s a attr x8 x9 nm k = g r) →
        Ev (fun r => spec_Reference.l0 r s a attr x8 x9 nm k) (S (refOut (refLoop attr ((B s).drop (a + 1)) ((nm.drop (k + 1)).map B) (k + 1) (match fitsRef attr k (B w) ((B s).drop (a + 1)) with | none => b | some n => better b k (B w) n))).1, ((refOut (refLoop attr ((B s).drop (a + 1)) ((nm.drop (k + 1)).map B) (k + 1) (match fitsRef attr k (B w) ((B s).drop (a + 1)) with | none => b | some n => better b k (B w) n))).2 : Int)) := fun bb g h e hs => by
      rw [e]
      exact h.step hs
    have hopen : ∀ r, spec_Reference.l0 (r + 1) s a attr x8 x9 nm k = (if pre (B w) ((B s).drop (a + 1)) = true then (if pre [59] ((B s).drop (a + 1 + w.size)) = true then (if x8 < 0 then spec_Reference.l0 r s a attr k (wrap64 (wrap64 (1 + (w.size : Int)) + 1)) nm (wrap64 ((k : Int) + 1)) else if 0 ≤ x8 then if x8 < (nm.length : Int) then if (w.size : Int) > ((rdOf ByteArray.empty nm x8).size : Int) then spec_Reference.l0 r s a attr k (wrap64 (wrap64 (1 + (w.size : Int)) + 1)) nm (wrap64 ((k : Int) + 1)) else spec_Reference.l0 r s a attr x8 x9 nm (wrap64 ((k : Int) + 1)) else none else none) else (if (k : Int) ≥ 6 then spec_Reference.j1 r s a attr x8 x9 nm k (wrap64 (1 + (w.size : Int))) true else if attr = true then (if a + 1 + w.size < s.size then spec_Reference.j1 r s a attr x8 x9 nm k (wrap64 (1 + (w.size : Int))) (letter (bt s ((a + 1 + w.size : Nat) : Int)) || digit (bt s ((a + 1 + w.size : Nat) : Int)) || bt s ((a + 1 + w.size : Nat) : Int) == 61) else spec_Reference.j1 r s a attr x8 x9 nm k (wrap64 (1 + (w.size : Int))) false) else spec_Reference.j1 r s a attr x8 x9 nm k (wrap64 (1 + (w.size : Int))) false)) else spec_Reference.l0 r s a attr x8 x9 nm (wrap64 ((k : Int) + 1))) := fun r => by
      simp only [spec_Reference.l0]
      rw [if_pos (by omega), if_pos (by omega), hrd, ea, hst, Option.bind_some]
      cases hpre : pre (B w) ((B s).drop (a + 1)) with
      | false => simp only [Bool.false_eq_true, if_false]
      | true =>
        simp only [if_true]
        rw [e1, e2, hs9, Option.bind_some]
        cases hp9 : pre [59] ((B s).drop (a + 1 + w.size)) with
        | true => simp only [if_true]
        | false =>
          simp only [Bool.false_eq_true, if_false]
          by_cases c6 : (k : Int) ≥ 6
          · rw [if_pos c6, if_pos c6]
          · rw [if_neg c6, if_neg c6]
            cases attr with
            | false => simp only [Bool.false_eq_true, if_false]
            | true =>
              simp only [if_true]
              by_cases cb : a + 1 + w.size < s.size
              · rw [if_pos (by omega), if_pos (by omega), if_pos cb, letter_f, Option.bind_some, digit_f, Option.bind_some]
                cases letter (bt s ((a + 1 + w.size : Nat) : Int)) <;> cases digit (bt s ((a + 1 + w.size : Nat) : Int)) <;> simp
              · rw [if_neg (by omega), if_neg cb]
    have hfr : fitsRef attr k (B w) ((B s).drop (a + 1)) = (if pre (B w) ((B s).drop (a + 1)) then if pre [59] ((B s).drop (a + 1 + w.size)) then some ((B w).length + 2) else if decide (6 ≤ k) || (attr && (match (B s).drop (a + 1 + w.size) with | b :: _ => letter b || digit b || b == 61 | [] => false)) then none else some ((B w).length + 1) else none) := by
      unfold fitsRef
      rw [hdd]
    cases hpre : pre (B w) ((B s).drop (a + 1)) with
    | false => exact hl0 b _ (hgo b x8 x9 hb) (by rw [hfr, hpre]; rfl) (fun r => by rw [hopen, hpre]; simp only [Bool.false_eq_true, if_false])
    | true =>
      cases hp9 : pre [59] ((B s).drop (a + 1 + w.size)) with
      | true => exact hl0 (better b k (B w) ((B w).length + 2)) _ (hbest ((B w).length + 2) (wrap64 (wrap64 (1 + (w.size : Int)) + 1)) (by rw [e1, w64 (by omega) (by omega), B_length]; omega)) (by rw [hfr, hpre, hp9]; rfl) (fun r => by rw [hopen, hpre, hp9]; simp only [if_true])
      | false =>
        have fin : ∀ c : Bool, (decide (6 ≤ k) || (attr && (match (B s).drop (a + 1 + w.size) with | b :: _ => letter b || digit b || b == 61 | [] => false))) = c → (∀ r, spec_Reference.l0 (r + 1) s a attr x8 x9 nm k = spec_Reference.j1 r s a attr x8 x9 nm k (wrap64 (1 + (w.size : Int))) c) →
            Ev (fun r => spec_Reference.l0 r s a attr x8 x9 nm k) (S (refOut (refLoop attr ((B s).drop (a + 1)) ((nm.drop (k + 1)).map B) (k + 1) (match fitsRef attr k (B w) ((B s).drop (a + 1)) with | none => b | some n => better b k (B w) n))).1, ((refOut (refLoop attr ((B s).drop (a + 1)) ((nm.drop (k + 1)).map B) (k + 1) (match fitsRef attr k (B w) ((B s).drop (a + 1)) with | none => b | some n => better b k (B w) n))).2 : Int)) := fun c hc hop => by
          refine hl0 (if c = true then b else better b k (B w) ((B w).length + 1)) _ (hj1 c) ?_ hop
          rw [hfr, hpre, hp9]
          simp only [if_true, Bool.false_eq_true, if_false]
          rw [hc]
          cases c <;> rfl
        by_cases c6 : (k : Int) ≥ 6
        · exact fin true (by rw [decide_eq_true (show 6 ≤ k by omega), Bool.true_or]) (fun r => by rw [hopen, hpre, hp9]; simp only [if_true, Bool.false_eq_true, if_false]; rw [if_pos c6])
        · cases attr with
          | false => exact fin false (by rw [decide_eq_false (show ¬ 6 ≤ k by omega), Bool.false_and, Bool.false_or]) (fun r => by rw [hopen, hpre, hp9]; simp only [if_true, Bool.false_eq_true, if_false]; rw [if_neg c6])
          | true =>
            by_cases cb : a + 1 + w.size < s.size
            · refine fin (letter (bt s ((a + 1 + w.size : Nat) : Int)) || digit (bt s ((a + 1 + w.size : Nat) : Int)) || bt s ((a + 1 + w.size : Nat) : Int) == 61) ?_ (fun r => by rw [hopen, hpre, hp9]; simp only [if_true, Bool.false_eq_true, if_false]; rw [if_neg c6, if_pos cb])
              have hh := head_B s (a + 1 + w.size) cb
              cases hd : (B s).drop (a + 1 + w.size) with
              | nil => rw [hd] at hh; cases hh
              | cons y l =>
                rw [hd] at hh
                injection hh with hh
                rw [decide_eq_false (show ¬ 6 ≤ k by omega), Bool.false_or, Bool.true_and, hh]
            · refine fin false ?_ (fun r => by rw [hopen, hpre, hp9]; simp only [if_true, Bool.false_eq_true, if_false]; rw [if_neg c6, if_neg cb])
              rw [show (B s).drop (a + 1 + w.size) = [] from List.drop_eq_nil_of_le (by rw [B_length]; omega), decide_eq_false (show ¬ 6 ≤ k by omega)]
              rfl
def nameStrs : List ByteArray := [⟨#[97, 109, 112]⟩, ⟨#[108, 116]⟩, ⟨#[103, 116]⟩, ⟨#[113, 117, 111, 116]⟩, ⟨#[110, 98, 115, 112]⟩, ⟨#[99, 111, 112, 121]⟩, ⟨#[97, 112, 111, 115]⟩, ⟨#[115, 104, 121]⟩, ⟨#[116, 105, 109, 101, 115]⟩, ⟨#[110, 100, 97, 115, 104]⟩, ⟨#[109, 100, 97, 115, 104]⟩, ⟨#[104, 101, 108, 108, 105, 112]⟩, ⟨#[101, 117, 114, 111]⟩, ⟨#[108, 114, 109]⟩, ⟨#[114, 108, 109]⟩, ⟨#[122, 119, 106]⟩]
def names : List Bs := nameStrs.map B
theorem names_small : ∀ w ∈ nameStrs, 0 < w.size ∧ w.size ≤ 100 := by decide
def reference (attr : Bool) (l : Bs) : Bs × Nat :=
  if pre [38] l then (if pre [38, 35] l then number (l.drop 2) else refOut (refLoop attr (l.drop 1) names 0 none)) else ([], 0)
theorem pre_length {w l : Bs} (h : pre w l = true) : w.length ≤ l.length := by
  unfold pre at h
  have := congrArg List.length (of_decide_eq_true h)
  rw [List.length_take] at this
  omega
theorem reference_f (s : ByteArray) (hs : s.size < 2 ^ 46) (a : Nat) (attr : Bool) : Ev (fun k => spec_Reference.f k s a attr) (S (reference attr ((B s).drop a)).1, ((reference attr ((B s).drop a)).2 : Int)) := by
  have e1 : B ⟨#[38]⟩ = [38] := by decide
  have e2 : B ⟨#[38, 35]⟩ = [38, 35] := by decide
  have h1 := stands_f s ⟨#[38]⟩ hs (by decide) (by decide) a
  have h2 := stands_f s ⟨#[38, 35]⟩ hs (by decide) (by decide) a
  rw [e1] at h1
  rw [e2] at h2
  unfold reference
  cases hp : pre [38] ((B s).drop a) with
  | false =>
    simp only [Bool.false_eq_true, if_false]
    refine (Ev.const _).same fun k => ?_
    simp only [spec_Reference.f]
    rw [h1, hp, Option.bind_some, if_neg (by simp)]
    rfl
  | true =>
    have ha : a + 1 ≤ s.size := by
      have := pre_length hp
      rw [List.length_drop, B_length] at this
      simp at this
      omega
    simp only [if_true]
    cases hp2 : pre [38, 35] ((B s).drop a) with
    | true =>
      have ha2 : a + 2 ≤ s.size := by
        have := pre_length hp2
        rw [List.length_drop, B_length] at this
        simp at this
        omega
      simp only [if_true]
      rw [List.drop_drop]
      refine Ev.same (g := fun k => (spec_l2Number.f k s a).bind fun q => some (q.1, q.2)) (Ev.bind (number_f s hs a ha2) (Ev.const _)) fun k => ?_
      simp only [spec_Reference.f]
      rw [h1, hp, Option.bind_some, if_pos rfl, h2, hp2, Option.bind_some, if_pos rfl]
    | false =>
      simp only [Bool.false_eq_true, if_false]
      rw [List.drop_drop]
      have h := ref_l0 s hs a (by omega) attr nameStrs (by decide) names_small rfl 16 0 none (-1) 0 (by decide) rfl
      refine h.same fun k => ?_
      simp only [spec_Reference.f]
      rw [h1, hp, Option.bind_some, if_pos rfl, h2, hp2, Option.bind_some, if_neg (by simp)]
      rfl
theorem fitsRef_le {attr : Bool} {k : Nat} {w t : Bs} {m : Nat} (h : fitsRef attr k w t = some m) : 1 ≤ m ∧ m ≤ w.length + 2 := by
  unfold fitsRef at h
  generalize (decide (6 ≤ k) || (attr && (match t.drop w.length with | b :: _ => letter b || digit b || b == 61 | [] => false))) = c at h
  cases h1 : pre w t with
  | false => rw [h1] at h; cases h
  | true =>
    cases h2 : pre [59] (t.drop w.length) with
    | true => rw [h1, h2] at h; injection h with h; omega
    | false =>
      cases c with
      | true => rw [h1, h2] at h; cases h
      | false => rw [h1, h2] at h; injection h with h; omega
theorem refLoop_best (attr : Bool) (t : Bs) (M : Nat) : ∀ (ws : List Bs) (k : Nat) (b : Best), (∀ w ∈ ws, w.length ≤ M) → (∀ j w n, b = some (j, w, n) → 1 ≤ n ∧ n ≤ M + 2) → ∀ j w n, refLoop attr t ws k b = some (j, w, n) → 1 ≤ n ∧ n ≤ M + 2
  | [], _, _, _, hb, j, w, n, h => hb j w n h
  | w0 :: ws, k, b, hw, hb, j, w, n, h => by
    refine refLoop_best attr t M ws (k + 1) _ (fun w hm => hw w (List.mem_cons_of_mem _ hm)) ?_ j w n h
    intro j' w' n' e
    have hwl := hw w0 List.mem_cons_self
    cases hf : fitsRef attr k w0 t with
    | none => rw [hf] at e; exact hb j' w' n' e
    | some m =>
      rw [hf] at e
      have hm : 1 ≤ m ∧ m ≤ M + 2 := by have := fitsRef_le hf; omega
      cases b with
      | none =>
        injection e with e
        injection e with _ e
        injection e with _ e
        omega
      | some q =>
        obtain ⟨jq, wq, nq⟩ := q
        simp only [better] at e
        split at e
        · injection e with e
          injection e with _ e
          injection e with _ e
          omega
        · injection e with e
          injection e with e1 e
          injection e with e2 e3
          have := hb jq wq nq rfl
          omega
theorem enc_length (n : Int) : (enc n).length ≤ 4 := by
  unfold enc
  split
  · simp
  · split
    · simp
    · split <;> simp
theorem put_length (n : Int) : (put n).length ≤ 4 := by
  unfold put
  split <;> exact enc_length _
theorem number_small (l : Bs) : (number l).1.length ≤ 4 ∧ (∀ b ∈ (number l).1, byte b) ∧ (number l).2 ≤ l.length + 4 := by
  unfold number
  have h := numLoop_le (if isX l then 16 else 10) (l.drop (if isX l then 1 else 0)) 0
  have ho : (if isX l then 1 else 0 : Nat) ≤ 1 := by split <;> omega
  generalize numLoop (if isX l then 16 else 10) (l.drop (if isX l then 1 else 0)) 0 = r at h ⊢
  generalize (if isX l then 1 else 0 : Nat) = o at h ho ⊢
  rw [List.length_drop] at h
  by_cases c : r.1 = 0
  · rw [if_pos c]; simp
  · rw [if_neg c]
    refine ⟨put_length _, put_byte _, ?_⟩
    have h2 : (if (l.drop (o + r.1)).head? = some 59 then 1 else 0 : Nat) ≤ 1 := by split <;> omega
    simp only
    omega
theorem reference_small (attr : Bool) (l : Bs) : (reference attr l).1.length ≤ 4 ∧ (∀ b ∈ (reference attr l).1, byte b) ∧ (reference attr l).2 ≤ l.length + 200 := by
  unfold reference
  split
  · split
    · have := number_small (l.drop 2)
      rw [List.length_drop] at this
      exact ⟨this.1, this.2.1, by omega⟩
    · cases hr : refLoop attr (l.drop 1) names 0 none with
      | none => simp [refOut]
      | some q =>
        obtain ⟨j, w, n⟩ := q
        have := refLoop_best attr (l.drop 1) 100 names 0 none (by decide) (fun _ _ _ h => by cases h) j w n hr
        exact ⟨put_length _, put_byte _, by simp only [refOut]; omega⟩
  · simp
def refsF (attr : Bool) : Nat → Bs → Bs
  | 0, _ => []
  | _ + 1, [] => []
  | f + 1, b :: l => if b = 38 ∧ 0 < (reference attr (b :: l)).2 then (reference attr (b :: l)).1 ++ refsF attr f ((b :: l).drop (reference attr (b :: l)).2) else b :: refsF attr f l
def refs (attr : Bool) (l : Bs) : Bs := refsF attr l.length l
theorem refsF_nil (attr : Bool) (f : Nat) : refsF attr f [] = [] := by cases f <;> rfl
theorem refsF_byte (attr : Bool) : ∀ (f : Nat) (l : Bs), (∀ b ∈ l, byte b) → ∀ b ∈ refsF attr f l, byte b
  | 0, l, _ => by simp [refsF]
  | f + 1, [], _ => by simp [refsF]
  | f + 1, b :: l, h => by
    unfold refsF
    split
    · intro x hx
      rcases List.mem_append.1 hx with hx | hx
      · exact (reference_small attr (b :: l)).2.1 x hx
      · exact refsF_byte attr f _ (fun y hy => h y (List.mem_of_mem_drop hy)) x hx
    · intro x hx
      rcases List.mem_cons.1 hx with e | hx
      · rw [e]; exact h b List.mem_cons_self
      · exact refsF_byte attr f l (fun y hy => h y (List.mem_cons_of_mem _ hy)) x hx
theorem refs_l0 (s : ByteArray) (hs : s.size < 2 ^ 44) (attr : Bool) : ∀ (f i : Nat) (acc : Bs), s.size ≤ i + f → i ≤ s.size + 1000 + s.size → acc.length ≤ 4 * i →
    Ev (fun k => spec_l2Refs.l0 k s attr acc i) (S (acc ++ refsF attr f ((B s).drop i))) := by
  intro f
  induction f with
  | zero =>
    intro i acc h hi ha
    simp only [refsF, List.append_nil]
    exact Ev.done fun k => by simp only [spec_l2Refs.l0]; rw [if_neg (by omega)]; rfl
  | succ f ih =>
    intro i acc h hi ha
    rcases Nat.lt_or_ge i s.size with hlt | hge
    · have hl : i < (B s).length := by rw [B_length]; exact hlt
      have hg := B_get s i hlt
      rw [List.getElem?_eq_getElem hl] at hg
      injection hg with hg
      have hdr : (B s).drop i = bt s i :: (B s).drop (i + 1) := by rw [List.drop_eq_getElem_cons hl, hg]
      have hone : Ev (fun k => spec_l2Refs.l0 k s attr (acc ++ [bt s i]) (wrap64 ((i : Int) + 1))) (S (acc ++ (bt s i :: refsF attr f ((B s).drop (i + 1))))) := by
        rw [w64 (by omega) (by omega)]
        have := ih (i + 1) (acc ++ [bt s i]) (by omega) (by omega) (by simp; omega)
        simpa using this
      by_cases c : bt s i = 38
      · have hr := reference_f s (by omega) i attr
        have hsm := reference_small attr ((B s).drop i)
        rw [List.length_drop, B_length] at hsm
        obtain ⟨q, hq⟩ : ∃ q, reference attr ((B s).drop i) = q := ⟨_, rfl⟩
        rw [hq] at hr hsm
        have hbs : (S q.1).size = q.1.length := by rw [← B_length, B_S hsm.2.1]
        by_cases c2 : 0 < q.2
        · rw [hdr] at hq ⊢
          simp only [refsF]
          rw [if_pos ⟨c, by rw [hq]; exact c2⟩, hq, ← hdr, List.drop_drop, ← List.append_assoc]
          have h2 := ih (i + q.2) (acc ++ q.1) (by omega) (by omega) (by simp; omega)
          refine Ev.step (g := fun k => (spec_Reference.f k s i attr).bind fun b => if b.2 > 0 then (if acc.length + b.1.size < 140737488355328 then spec_l2Refs.l0 k s attr (acc ++ bytesOf b.1) (wrap64 ((i : Int) + b.2)) else none) else (if acc.length < 140737488355328 then spec_l2Refs.l0 k s attr (acc ++ [bt s i]) (wrap64 ((i : Int) + 1)) else none)) (Ev.bind hr ?_) fun k => by
            simp only [spec_l2Refs.l0]
            rw [if_pos (by omega), if_pos (by omega), if_pos c]
          have e : ∀ k, (if ((q.2 : Nat) : Int) > 0 then (if acc.length + (S q.1).size < 140737488355328 then spec_l2Refs.l0 k s attr (acc ++ bytesOf (S q.1)) (wrap64 ((i : Int) + (q.2 : Int))) else none) else (if acc.length < 140737488355328 then spec_l2Refs.l0 k s attr (acc ++ [bt s i]) (wrap64 ((i : Int) + 1)) else none)) = spec_l2Refs.l0 k s attr (acc ++ q.1) ((i + q.2 : Nat) : Int) := fun k => by
            rw [if_pos (by omega), if_pos (by rw [hbs]; omega), w64 (by omega) (by omega), show bytesOf (S q.1) = q.1 from B_S hsm.2.1]
            rfl
          simp only [e]
          exact h2
        · rw [hdr] at hq ⊢
          simp only [refsF]
          rw [if_neg (fun h => c2 (by rw [← hq]; exact h.2))]
          refine Ev.step (g := fun k => (spec_Reference.f k s i attr).bind fun b => if b.2 > 0 then (if acc.length + b.1.size < 140737488355328 then spec_l2Refs.l0 k s attr (acc ++ bytesOf b.1) (wrap64 ((i : Int) + b.2)) else none) else (if acc.length < 140737488355328 then spec_l2Refs.l0 k s attr (acc ++ [bt s i]) (wrap64 ((i : Int) + 1)) else none)) (Ev.bind hr ?_) fun k => by
            simp only [spec_l2Refs.l0]
            rw [if_pos (by omega), if_pos (by omega), if_pos c]
          have e : ∀ k, (if ((q.2 : Nat) : Int) > 0 then (if acc.length + (S q.1).size < 140737488355328 then spec_l2Refs.l0 k s attr (acc ++ bytesOf (S q.1)) (wrap64 ((i : Int) + (q.2 : Int))) else none) else (if acc.length < 140737488355328 then spec_l2Refs.l0 k s attr (acc ++ [bt s i]) (wrap64 ((i : Int) + 1)) else none)) = spec_l2Refs.l0 k s attr (acc ++ [bt s i]) (wrap64 ((i : Int) + 1)) := fun k => by
            rw [if_neg (by omega), if_pos (by omega)]
          simp only [e]
          exact hone
      · rw [hdr]
        simp only [refsF]
        rw [if_neg (fun h => c h.1)]
        refine hone.step fun k => ?_
        simp only [spec_l2Refs.l0]
        rw [if_pos (by omega), if_pos (by omega), if_neg c, if_pos (by omega)]
    · rw [List.drop_eq_nil_of_le (by rw [B_length]; exact hge), refsF_nil, List.append_nil]
      exact Ev.done fun k => by simp only [spec_l2Refs.l0]; rw [if_neg (by omega)]; rfl
theorem refs_f (s : ByteArray) (hs : s.size < 2 ^ 44) (attr : Bool) : Ev (fun k => spec_l2Refs.f k s attr) (S (refs attr (B s))) := by
  have h := refs_l0 s hs attr s.size 0 [] (by omega) (by omega) (by simp)
  unfold refs
  rw [B_length]
  exact h.same fun k => by simp only [spec_l2Refs.f]; rfl
end Go.Proofs.YtnjnoabldjodcaaDoor.Tok
set_option linter.unusedVariables false
set_option linter.unusedSimpArgs false
namespace Go.Proofs.YtnjnoabldjodcaaDoor.Tok
open Go.RowKit Go.Proofs.YtnjnoabldjodcaaDoorW.PrintWords Go.Proofs.YtnjnoabldjodcaaDoor.PFnExactTokens
def ov (L : Bs) (i : Nat) : Nat := i + sp white (L.drop i)
def un (L : Bs) (m : Bs) (i : Nat) : Nat := i + sp (fun b => !endsIn m b) (L.drop i)
def fd (L : Bs) (c : Int) (i : Nat) : Nat := i + sp (fun b => b != c) (L.drop i)
def vl (L : Bs) (i : Nat) : Nat := i + sp (fun b => b != 62 && !white b) (L.drop i)
def part (L : Bs) (a b : Nat) : Bs := (L.drop a).take (b - a)
theorem sp_to {p : Int → Bool} {L : Bs} {i : Nat} (hi : i ≤ L.length) : i + sp p (L.drop i) ≤ L.length := by
  have := sp_le p (L.drop i)
  rw [List.length_drop] at this
  omega
theorem sp_at {p : Int → Bool} : ∀ {l : Bs} {b : Int}, l[sp p l]? = some b → p b = false
  | [], b, h => by simp at h
  | x :: l, b, h => by
    unfold sp at h
    split at h
    · rw [List.getElem?_cons_succ] at h
      exact sp_at h
    · rename_i hx
      simp at h
      subst h
      simpa using hx
theorem part_f (s : ByteArray) (a b : Nat) : s.extract a b = S (part (B s) a b) := by
  apply B_inj
  rw [B_S]
  · exact B_extract s a b
  · intro x hx
    exact B_byte s x (List.mem_of_mem_drop (List.mem_of_mem_take hx))
theorem part_byte (s : ByteArray) (a b : Nat) : ∀ x ∈ part (B s) a b, byte x := fun x hx => B_byte s x (List.mem_of_mem_drop (List.mem_of_mem_take hx))
theorem S_size (l : Bs) : (S l).size = l.length := strOfNums_size l
theorem part_le (L : Bs) (a b : Nat) : (part L a b).length ≤ L.length := by
  unfold part
  rw [List.length_take, List.length_drop]
  omega
def valueI (L : Bs) (i : Nat) : Option (Bs × Nat) :=
  match L[i]? with
  | none => none
  | some q =>
    if q == 34 || q == 39 then (if L.length ≤ fd L q (i + 1) then none else some (refs true (part L (i + 1) (fd L q (i + 1))), fd L q (i + 1) + 1))
    else some (refs true (part L i (vl L i)), vl L i)
def outV : Option (Bs × Nat) → ByteArray × Int
  | none => (S [], -1)
  | some (v, j) => (S v, (j : Int))
theorem value_f (s : ByteArray) (hs : s.size < 2 ^ 44) (i : Nat) (hi : i ≤ s.size) : Ev (fun k => spec_l2Value.f k s i) (outV (valueI (B s) i)) := by
  unfold valueI
  rcases Nat.lt_or_ge i s.size with hlt | hge
  · have hg := B_get s i hlt
    rw [hg]
    simp only
    have hj : ∀ b : Bool, (bt s i == 34 || bt s i == 39) = b → Ev (fun k => spec_l2Value.j0 k s i b) (outV (if (bt s i == 34 || bt s i == 39) = true then (if (B s).length ≤ fd (B s) (bt s i) (i + 1) then none else some (refs true (part (B s) (i + 1) (fd (B s) (bt s i) (i + 1))), fd (B s) (bt s i) (i + 1) + 1)) else some (refs true (part (B s) i (vl (B s) i)), vl (B s) i))) := fun b hb => by
      rw [hb]
      cases b with
      | true =>
        simp only [if_true]
        have hf := find_f s (by omega) (bt s i) (i + 1) (by omega)
        have hle : fd (B s) (bt s i) (i + 1) ≤ s.size := by rw [← B_length]; exact sp_to (by rw [B_length]; omega)
        have hge1 : i + 1 ≤ fd (B s) (bt s i) (i + 1) := Nat.le_add_right _ _
        have hf2 : Ev (fun k => spec_l2Find.f k s ((i + 1 : Nat) : Int) (bt s i)) ((fd (B s) (bt s i) (i + 1) : Nat) : Int) := hf
        generalize fd (B s) (bt s i) (i + 1) = e at hf2 hle hge1 ⊢
        have ei : wrap64 ((i : Int) + 1) = ((i + 1 : Nat) : Int) := by rw [w64 (by omega) (by omega)]; rfl
        by_cases c : (B s).length ≤ e
        · rw [if_pos c]
          rw [B_length] at c
          refine Ev.step (g := fun k => (spec_l2Find.f k s ((i + 1 : Nat) : Int) (bt s i)).bind fun t => if t ≥ (s.size : Int) then some (S [], -1) else if 0 ≤ wrap64 ((i : Int) + 1) then if wrap64 ((i : Int) + 1) ≤ t then if t ≤ (s.size : Int) then (spec_l2Refs.f k (s.extract (wrap64 ((i : Int) + 1)).toNat t.toNat) true).bind fun t2 => some (t2, wrap64 (t + 1)) else none else none else none) (Ev.bind hf2 ?_) fun k => by
            simp only [spec_l2Value.j0, if_true]
            rw [if_pos (by omega), if_pos (by omega), ei]
            rfl
          refine (Ev.const _).same fun k => ?_
          rw [if_pos (by omega)]
          rfl
        · rw [if_neg c]
          rw [B_length] at c
          have hr := refs_f (s.extract (i + 1) e) (by rw [part_f, S_size]; have := part_le (B s) (i + 1) e; rw [B_length] at this; omega) true
          have he : B (s.extract (i + 1) e) = part (B s) (i + 1) e := B_extract s _ _
          rw [he] at hr
          refine Ev.step (g := fun k => (spec_l2Find.f k s ((i + 1 : Nat) : Int) (bt s i)).bind fun t => if t ≥ (s.size : Int) then some (S [], -1) else if 0 ≤ wrap64 ((i : Int) + 1) then if wrap64 ((i : Int) + 1) ≤ t then if t ≤ (s.size : Int) then (spec_l2Refs.f k (s.extract (wrap64 ((i : Int) + 1)).toNat t.toNat) true).bind fun t2 => some (t2, wrap64 (t + 1)) else none else none else none) (Ev.bind hf2 ?_) fun k => by
            simp only [spec_l2Value.j0, if_true]
            rw [if_pos (by omega), if_pos (by omega), ei]
            rfl
          refine Ev.same (g := fun k => (spec_l2Refs.f k (s.extract (i + 1) e) true).bind fun t2 => some (t2, ((e + 1 : Nat) : Int))) (Ev.bind hr (Ev.const _)) fun k => ?_
          rw [if_neg (by omega), ei, if_pos (by omega), if_pos (by omega), if_pos (by omega), Int.toNat_natCast, Int.toNat_natCast, w64 (by omega) (by omega)]
          rfl
      | false =>
        simp only [Bool.false_eq_true, if_false]
        have hsc : ∀ (d j : Nat), i ≤ j → j + d = s.size → Ev (fun k => spec_l2Value.l0 k s i j) (S (refs true (part (B s) i (vl (B s) j))), ((vl (B s) j : Nat) : Int)) := by
          have hend : ∀ (j : Nat), i ≤ j → j ≤ s.size → Ev (fun k => (spec_l2Refs.f k (s.extract (i : Int).toNat (j : Int).toNat) true).bind fun t => some (t, (j : Int))) (S (refs true (part (B s) i j)), (j : Int)) := fun j h1 h2 => by
            have hr := refs_f (s.extract i j) (by rw [part_f, S_size]; have := part_le (B s) i j; rw [B_length] at this; omega) true
            rw [show B (s.extract i j) = part (B s) i j from B_extract s _ _] at hr
            exact Ev.bind hr (Ev.const _)
          intro d
          induction d with
          | zero =>
            intro j h1 h2
            have hv : vl (B s) j = j := by unfold vl; rw [List.drop_eq_nil_of_le (by rw [B_length]; omega)]; rfl
            rw [hv]
            refine (hend j h1 (by omega)).step fun k => ?_
            simp only [spec_l2Value.l0]
            rw [if_neg (by omega), if_pos (by omega), if_pos (by omega)]
            rw [show j = s.size from by omega, if_pos (Int.le_refl _)]
          | succ d ih =>
            intro j h1 h2
            have hjl : j < s.size := by omega
            have hl : j < (B s).length := by rw [B_length]; exact hjl
            have hg := B_get s j hjl
            rw [List.getElem?_eq_getElem hl] at hg
            injection hg with hg
            have hdr : (B s).drop j = bt s j :: (B s).drop (j + 1) := by rw [List.drop_eq_getElem_cons hl, hg]
            by_cases c1 : bt s j = 62
            · have hv : vl (B s) j = j := by unfold vl; rw [hdr]; simp [sp, c1]
              rw [hv]
              refine (hend j h1 (by omega)).step fun k => ?_
              simp only [spec_l2Value.l0]
              rw [if_pos (by omega), if_pos (by omega), if_pos c1, if_pos (by omega), if_pos (by omega), if_pos (by omega)]
            · cases hw : white (bt s j) with
              | true =>
                have hv : vl (B s) j = j := by unfold vl; rw [hdr]; simp [sp, hw]
                rw [hv]
                refine (hend j h1 (by omega)).step fun k => ?_
                simp only [spec_l2Value.l0]
                rw [if_pos (by omega), if_pos (by omega), if_neg c1, white_f, hw, Option.bind_some, if_pos rfl, if_pos (by omega), if_pos (by omega), if_pos (by omega)]
              | false =>
                have hv : vl (B s) j = vl (B s) (j + 1) := by unfold vl; rw [hdr]; simp [sp, hw, c1]; omega
                rw [hv]
                refine (ih (j + 1) (by omega) (by omega)).step fun k => ?_
                simp only [spec_l2Value.l0]
                rw [if_pos (by omega), if_pos (by omega), if_neg c1, white_f, hw, Option.bind_some, if_neg (by simp), w64 (by omega) (by omega)]
                rfl
        obtain ⟨d, hd⟩ : ∃ d, i + d = s.size := ⟨s.size - i, by omega⟩
        refine (hsc d i (Nat.le_refl _) hd).step fun k => ?_
        simp only [spec_l2Value.j0, Bool.false_eq_true, if_false]
    by_cases c : bt s i = 34
    · refine (hj true (by rw [c]; rfl)).same fun k => ?_
      simp only [spec_l2Value.f]
      rw [if_neg (by omega), if_pos (by omega), if_pos (by omega), if_pos c]
    · refine (hj (bt s i == 39) (by rw [beq_eq_false_iff_ne.2 c, Bool.false_or])).same fun k => ?_
      simp only [spec_l2Value.f]
      rw [if_neg (by omega), if_pos (by omega), if_pos (by omega), if_neg c]
  · rw [List.getElem?_eq_none (by rw [B_length]; exact hge)]
    exact (Ev.const _).same fun k => by simp only [spec_l2Value.f]; rw [if_pos (by omega)]; rfl
abbrev A := S62
def hasA (al : List A) (n : ByteArray) : Bool := al.any (fun a => decide (a.f0 = n))
def addA (al : List A) (a : A) : List A := if hasA al a.f0 then al else al ++ [a]
theorem has_f (al : List A) (n : ByteArray) (h : al.length < 2 ^ 62) : Ev (fun k => spec_l2Has.f k al n) (hasA al n) := by
  have key : ∀ (d i : Nat), i + d = al.length → Ev (fun k => spec_l2Has.l0 k al n i) (hasA (al.drop i) n) := by
    intro d
    induction d with
    | zero =>
      intro i hi
      rw [List.drop_eq_nil_of_le (by omega)]
      exact Ev.done fun k => by simp only [spec_l2Has.l0]; rw [if_neg (by omega)]; rfl
    | succ d ih =>
      intro i hi
      have hl : i < al.length := by omega
      have hr : rd_T62 al (i : Int) = al[i] := by simp [rd_T62, hl]
      rw [List.drop_eq_getElem_cons hl]
      by_cases c : al[i].f0 = n
      · rw [show hasA (al[i] :: al.drop (i + 1)) n = true from by unfold hasA; rw [List.any_cons, decide_eq_true c, Bool.true_or]]
        exact Ev.done fun k => by simp only [spec_l2Has.l0]; rw [if_pos (by omega), if_pos (by omega), hr, if_pos (by rw [c])]
      · rw [show hasA (al[i] :: al.drop (i + 1)) n = hasA (al.drop (i + 1)) n from by unfold hasA; rw [List.any_cons, decide_eq_false c, Bool.false_or]]
        refine (ih (i + 1) (by omega)).step fun k => ?_
        simp only [spec_l2Has.l0]
        rw [if_pos (by omega), if_pos (by omega), hr, if_neg (fun h => c (B_inj (toList_eq.1 h))), w64 (by omega) (by omega)]
        rfl
  exact (key al.length 0 (by omega)).same fun k => by simp only [spec_l2Has.f]; rfl
theorem addA_length (al : List A) (a : A) : (addA al a).length ≤ al.length + 1 := by
  unfold addA
  split <;> simp
def tagI (L : Bs) : Nat → Nat → List A → Bool → List A × Bool × Option Nat
  | 0, _, al, cl => (al, cl, none)
  | f + 1, i, al, cl =>
    match L[ov L i]? with
    | none => (al, cl, none)
    | some b =>
      if b = 62 then (al, cl, some (ov L i + 1))
      else if b = 47 then tagI L f (ov L i + 1) al (cl || pre [62] (L.drop (ov L i + 1)))
      else if pre [61] (L.drop (ov L (un L [47, 62, 61] (ov L i + 1)))) then
        match valueI L (ov L (ov L (un L [47, 62, 61] (ov L i + 1)) + 1)) with
        | none => (al, cl, none)
        | some (v, j) => tagI L f j (addA al ⟨S (low (part L (ov L i) (un L [47, 62, 61] (ov L i + 1)))), S v⟩) cl
      else tagI L f (ov L (un L [47, 62, 61] (ov L i + 1))) (addA al ⟨S (low (part L (ov L i) (un L [47, 62, 61] (ov L i + 1)))), S []⟩) cl
def outT (kind : Int) (nm txt : ByteArray) : List A × Bool × Option Nat → Int × ByteArray × List A × ByteArray × Bool × Int
  | (al, cl, none) => (kind, nm, al, txt, cl, -1)
  | (al, cl, some e) => if kind = 3 then (kind, nm, [], txt, false, (e : Int)) else (kind, nm, al, txt, cl, (e : Int))
theorem valueI_le {L : Bs} {i : Nat} {v : Bs} {j : Nat} (h : valueI L i = some (v, j)) : i ≤ j ∧ j ≤ L.length := by
  unfold valueI at h
  cases hq : L[i]? with
  | none => rw [hq] at h; cases h
  | some q =>
    rw [hq] at h
    have hi : i < L.length := (List.getElem?_eq_some_iff.1 hq).1
    simp only at h
    split at h
    · split at h
      · cases h
      · rename_i hn
        injection h with h
        injection h with _ h
        have : i + 1 ≤ fd L q (i + 1) := Nat.le_add_right _ _
        omega
    · injection h with h
      injection h with _ h
      have h1 : i ≤ vl L i := Nat.le_add_right _ _
      have h2 : vl L i ≤ L.length := sp_to (by omega)
      omega
def tagOf (L : Bs) (i : Nat) : List A × Bool × Option Nat := tagI L (L.length + 1) (un L [47, 62] i) [] false
def nameOf (L : Bs) (i : Nat) : ByteArray := S (low (part L i (un L [47, 62] i)))
end Go.Proofs.YtnjnoabldjodcaaDoor.Tok
set_option linter.unusedVariables false
set_option linter.unusedSimpArgs false
namespace Go.Proofs.YtnjnoabldjodcaaDoor.Tok
open Go.RowKit Go.Proofs.YtnjnoabldjodcaaDoorW.PrintWords Go.Proofs.YtnjnoabldjodcaaDoor.PFnExactTokens
def opens (L : Bs) (i : Nat) : Bool :=
  match L[i + 1]? with
  | none => false
  | some c => letter c || c == 33 || c == 63 || (c == 47 && decide (i + 2 < L.length))
theorem opens_f (s : ByteArray) (hs : s.size < 2 ^ 44) (i : Nat) (hi : i ≤ s.size) : spec_l2Opens.f s i = some (opens (B s) i) := by
  unfold spec_l2Opens.f opens
  have e1 : wrap64 ((i : Int) + 1) = ((i + 1 : Nat) : Int) := by rw [w64 (by omega) (by omega)]; rfl
  have e2 : wrap64 ((i : Int) + 2) = ((i + 2 : Nat) : Int) := by rw [w64 (by omega) (by omega)]; rfl
  rw [e1, e2]
  rcases Nat.lt_or_ge (i + 1) s.size with h | h
  · rw [B_get s (i + 1) h, if_neg (by omega), if_pos (by omega), if_pos (by omega), letter_f, Option.bind_some, B_length]
    simp only
    generalize bt s ((i + 1 : Nat) : Int) = c
    cases letter c with
    | true => simp
    | false =>
      by_cases c1 : c = 33
      · simp [c1]
      by_cases c2 : c = 63
      · simp [c2]
      by_cases c3 : c = 47
      · subst c3
        simp
        omega
      · simp [c1, c2, c3]
  · rw [List.getElem?_eq_none (by rw [B_length]; exact h), if_pos (by omega)]
def cm (L : Bs) : Nat → Nat → Nat × Nat
  | 0, _ => (L.length, L.length)
  | d + 1, i => if pre [45, 45, 62] (L.drop i) then (i, i + 3) else if pre [45, 45, 33, 62] (L.drop i) then (i, i + 4) else cm L d (i + 1)
def commentI (L : Bs) (i : Nat) : Bs × Nat :=
  if pre [62] (L.drop i) then ([], i + 1) else if pre [45, 62] (L.drop i) then ([], i + 2)
  else (part L i (cm L (L.length - i) i).1, (cm L (L.length - i) i).2)
theorem comment_f (s : ByteArray) (hs : s.size < 2 ^ 44) (i : Nat) (hi : i ≤ s.size) : Ev (fun k => spec_l2Comment.f k s i) (S (commentI (B s) i).1, ((commentI (B s) i).2 : Int)) := by
  have h1 := stands_f s ⟨#[62]⟩ (by omega) (by decide) (by decide) i
  rw [show B ⟨#[62]⟩ = [62] from by decide] at h1
  have h2 := stands_f s ⟨#[45, 62]⟩ (by omega) (by decide) (by decide) i
  rw [show B ⟨#[45, 62]⟩ = [45, 62] from by decide] at h2
  have key : ∀ (d j : Nat), i ≤ j → j + d = s.size → Ev (fun k => spec_l2Comment.l0 k s i j) (S (part (B s) i (cm (B s) d j).1), ((cm (B s) d j).2 : Int)) := by
    intro d
    induction d with
    | zero =>
      intro j hij hj
      refine Ev.done fun k => ?_
      simp only [spec_l2Comment.l0, cm]
      rw [if_neg (by omega), if_pos (by omega), if_pos (by omega), B_length, part_f, Int.toNat_natCast]
    | succ d ih =>
      intro j hij hj
      have h3 := stands_f s ⟨#[45, 45, 62]⟩ (by omega) (by decide) (by decide) j
      rw [show B ⟨#[45, 45, 62]⟩ = [45, 45, 62] from by decide] at h3
      have h4 := stands_f s ⟨#[45, 45, 33, 62]⟩ (by omega) (by decide) (by decide) j
      rw [show B ⟨#[45, 45, 33, 62]⟩ = [45, 45, 33, 62] from by decide] at h4
      simp only [cm]
      cases c3 : pre [45, 45, 62] ((B s).drop j) with
      | true =>
        refine Ev.done fun k => ?_
        simp only [spec_l2Comment.l0, if_true]
        rw [if_pos (by omega), h3, c3, Option.bind_some, if_pos rfl, if_pos (by omega), if_pos (by omega), if_pos (by omega), Int.toNat_natCast, Int.toNat_natCast, part_f, w64 (by omega) (by omega)]
        rfl
      | false =>
        cases c4 : pre [45, 45, 33, 62] ((B s).drop j) with
        | true =>
          refine Ev.done fun k => ?_
          simp only [spec_l2Comment.l0, if_true, Bool.false_eq_true, if_false]
          rw [if_pos (by omega), h3, c3, Option.bind_some, if_neg (by simp), h4, c4, Option.bind_some, if_pos rfl, if_pos (by omega), if_pos (by omega), if_pos (by omega), Int.toNat_natCast, Int.toNat_natCast, part_f, w64 (by omega) (by omega)]
          rfl
        | false =>
          simp only [Bool.false_eq_true, if_false]
          refine (ih (j + 1) (by omega) (by omega)).step fun k => ?_
          simp only [spec_l2Comment.l0]
          rw [if_pos (by omega), h3, c3, Option.bind_some, if_neg (by simp), h4, c4, Option.bind_some, if_neg (by simp), w64 (by omega) (by omega)]
          rfl
  unfold commentI
  cases c1 : pre [62] ((B s).drop i) with
  | true =>
    refine (Ev.const _).same fun k => ?_
    simp only [spec_l2Comment.f, if_true]
    rw [h1, c1, Option.bind_some, if_pos rfl, w64 (by omega) (by omega)]
    rfl
  | false =>
    cases c2 : pre [45, 62] ((B s).drop i) with
    | true =>
      refine (Ev.const _).same fun k => ?_
      simp only [spec_l2Comment.f, if_true, Bool.false_eq_true, if_false]
      rw [h1, c1, Option.bind_some, if_neg (by simp), h2, c2, Option.bind_some, if_pos rfl, w64 (by omega) (by omega)]
      rfl
    | false =>
      simp only [Bool.false_eq_true, if_false]
      have := key ((B s).length - i) i (Nat.le_refl _) (by rw [B_length]; omega)
      refine this.same fun k => ?_
      simp only [spec_l2Comment.f]
      rw [h1, c1, Option.bind_some, if_neg (by simp), h2, c2, Option.bind_some, if_neg (by simp)]
def isClose (L nm : Bs) (i : Nat) : Bool :=
  pre [60, 47] (L.drop i) && (decide (low (part L (i + 2) (i + 2 + nm.length)) = nm) && (match L[i + 2 + nm.length]? with | some b => endsIn [47, 62] b | none => false))
def clI (L nm : Bs) : Nat → Nat → Nat
  | 0, _ => L.length
  | d + 1, i => if i + 2 + nm.length < L.length then (if isClose L nm i then i else clI L nm d (i + 1)) else L.length
theorem pre2 {L : Bs} {i : Nat} {x y a b : Int} (h1 : L[i]? = some a) (h2 : L[i + 1]? = some b) : pre [x, y] (L.drop i) = (decide (a = x) && decide (b = y)) := by
  have hl : i < L.length := (List.getElem?_eq_some_iff.1 h1).1
  have hl2 : i + 1 < L.length := (List.getElem?_eq_some_iff.1 h2).1
  rw [List.drop_eq_getElem_cons hl, List.drop_eq_getElem_cons hl2]
  have e1 : L[i] = a := (List.getElem?_eq_some_iff.1 h1).2
  have e2 : L[i + 1] = b := (List.getElem?_eq_some_iff.1 h2).2
  rw [e1, e2]
  unfold pre
  rw [Bool.eq_iff_iff]
  simp
def behind (L : Bs) (i : Nat) : Nat := if i < L.length then i + 1 else i
abbrev Tk := Int × ByteArray × List A × ByteArray × Bool
def isDoc (L : Bs) (i : Nat) : Bool := decide (i + 9 ≤ L.length) && (decide (L[i + 1]? = some 33) && decide (low (part L (i + 2) (i + 9)) = [100, 111, 99, 116, 121, 112, 101]))
def docName (l : Bs) : ByteArray := S (low (part l (ov l 0) (un l [] (ov l 0))))
def markupI (L : Bs) (i : Nat) : Tk × Nat :=
  if pre [60, 33, 45, 45] (L.drop i) then ((4, S [], [], S (commentI L (i + 4)).1, false), (commentI L (i + 4)).2)
  else if isDoc L i then ((5, docName (part L (i + 9) (fd L 62 (i + 9))), [], S [], false), behind L (fd L 62 (i + 9)))
  else if L[i + 1]? = some 63 then ((4, S [], [], S (part L (i + 1) (fd L 62 (i + 1))), false), behind L (fd L 62 (i + 1)))
  else ((4, S [], [], S (part L (i + 2) (fd L 62 (i + 2))), false), behind L (fd L 62 (i + 2)))
def outM (q : Tk × Nat) : Int × ByteArray × List A × ByteArray × Bool × Int := (q.1.1, q.1.2.1, q.1.2.2.1, q.1.2.2.2.1, q.1.2.2.2.2, (q.2 : Int))
def rawKind (n : Bs) : Int :=
  if n = [115, 116, 121, 108, 101] ∨ n = [115, 99, 114, 105, 112, 116] then 1 else if n = [116, 105, 116, 108, 101] ∨ n = [116, 101, 120, 116, 97, 114, 101, 97] then 2 else 0
theorem rawKind_f (n : ByteArray) : Ev (fun k => spec_RawKind.f k n) (rawKind (B n)) := by
  have e : ∀ (l : List UInt8) (m : Bs), B ⟨l.toArray⟩ = m → (n.toList = l ↔ B n = m) := fun l m h => by
    rw [← h, ← toList_eq, toList_data ⟨l.toArray⟩]
  have e1 := e [115, 116, 121, 108, 101] [115, 116, 121, 108, 101] (by decide)
  have e2 := e [115, 99, 114, 105, 112, 116] [115, 99, 114, 105, 112, 116] (by decide)
  have e3 := e [116, 105, 116, 108, 101] [116, 105, 116, 108, 101] (by decide)
  have e4 := e [116, 101, 120, 116, 97, 114, 101, 97] [116, 101, 120, 116, 97, 114, 101, 97] (by decide)
  refine ⟨1, fun k hk => ?_⟩
  obtain ⟨m, rfl⟩ : ∃ m, k = m + 1 := ⟨k - 1, by omega⟩
  dsimp only
  unfold rawKind
  simp only [spec_RawKind.f]
  by_cases c1 : n.toList = [115, 116, 121, 108, 101]
  · rw [if_pos c1, if_pos (.inl (e1.1 c1))]
    simp [spec_RawKind.j0, c1]
  · rw [if_neg c1]
    by_cases c2 : n.toList = [115, 99, 114, 105, 112, 116]
    · rw [if_pos (.inr (e2.1 c2))]
      simp [spec_RawKind.j0, c2]
    · rw [if_neg (fun h => h.elim (fun h => c1 (e1.2 h)) (fun h => c2 (e2.2 h)))]
      simp only [spec_RawKind.j0]
      rw [if_neg (by simpa using c2)]
      by_cases c3 : n.toList = [116, 105, 116, 108, 101]
      · rw [if_pos c3, if_pos (.inl (e3.1 c3))]
      · rw [if_neg c3]
        by_cases c4 : n.toList = [116, 101, 120, 116, 97, 114, 101, 97]
        · rw [if_pos c4, if_pos (.inr (e4.1 c4))]
        · rw [if_neg c4, if_neg (fun h => h.elim (fun h => c3 (e3.2 h)) (fun h => c4 (e4.2 h)))]
end Go.Proofs.YtnjnoabldjodcaaDoor.Tok
