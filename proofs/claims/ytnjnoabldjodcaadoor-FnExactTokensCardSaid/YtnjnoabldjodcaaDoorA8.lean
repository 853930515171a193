/- Part 8 of the proof: TokTop. -/
import Derived.Test.YtnjnoabldjodcaaDoorA7
set_option linter.unusedVariables false
set_option linter.unusedSimpArgs false
namespace Go.Proofs.YtnjnoabldjodcaaDoor.Tok
open Go.RowKit Go.Proofs.YtnjnoabldjodcaaDoorW.PrintWords Go.Proofs.YtnjnoabldjodcaaDoor.PFnExactTokens
abbrev T := S36
def txt (l : Bs) : T := ⟨1, S [], [], S l, false⟩
def tk (q : Tk) : T := ⟨q.1, q.2.1, q.2.2.1, q.2.2.2.1, q.2.2.2.2⟩
def addText (out : List T) (t : Bs) : List T :=
  if t = [] then out else
  match out.getLast? with
  | some x => if x.f0 = 1 then out.dropLast ++ [{ x with f3 := S (B x.f3 ++ t) }] else out ++ [txt t]
  | none => [txt t]
def txI (L : Bs) : Nat → Nat → Nat
  | 0, j => j
  | d + 1, j => if L[j]? = some 60 ∧ opens L j = true then j else txI L d (j + 1)
def rawText (raw t : Bs) : Bs := if rawKind raw = 2 then refs false t else t
def specTok (L : Bs) : Nat → Nat → Bs → List T → List T
  | 0, _, _, out => out
  | f + 1, i, raw, out =>
    if i < L.length then
      if 0 < rawKind raw then specTok L f (clI L raw (L.length - i) i) [] (addText out (rawText raw (part L i (clI L raw (L.length - i) i))))
      else if L[i]? = some 60 ∧ opens L i = true then
        if pre [60, 47, 62] (L.drop i) then specTok L f (i + 3) raw out
        else if L[i + 1]? = some 47 then
          if (match L[i + 2]? with | some d => letter d | none => false) then
            match tagOf L (i + 2) with
            | (_, _, none) => out
            | (_, _, some e) => specTok L f e raw (out ++ [⟨3, nameOf L (i + 2), [], S [], false⟩])
          else specTok L f (markupI L i).2 raw (out ++ [tk (markupI L i).1])
        else
          if (match L[i + 1]? with | some d => letter d | none => false) then
            match tagOf L (i + 1) with
            | (_, _, none) => out
            | (al, cl, some e) => specTok L f e (B (nameOf L (i + 1))) (out ++ [⟨2, nameOf L (i + 1), al, S [], cl⟩])
          else specTok L f (markupI L i).2 raw (out ++ [tk (markupI L i).1])
      else specTok L f (txI L (L.length - (i + 1)) (i + 1)) raw (addText out (refs false (part L i (txI L (L.length - (i + 1)) (i + 1)))))
    else out
def beg (L : Bs) (i : Nat) : Nat :=
  match L[i]?, L[i + 1]? with
  | some a, some c =>
    if a ≠ 60 then 0 else if letter c then 2 else if pre [60, 33, 45, 45] (L.drop i) then 4 else if isDoc L i then 5 else if c = 33 ∨ c = 63 then 6
    else if c ≠ 47 then 0 else match L[i + 2]? with | none => 0 | some d => if letter d then 3 else if d = 62 then 7 else 6
  | _, _ => 0
def fl (p : Bs) : List T := if p = [] then [] else [txt p]
def implTok (L : Bs) : Nat → Nat → Bs → Bs → List T → List T
  | 0, _, _, p, out => out ++ fl p
  | f + 1, i, raw, p, out =>
    if 0 < rawKind raw then implTok L f (clI L raw (L.length - i) i) [] (p ++ rawText raw (part L i (clI L raw (L.length - i) i))) out
    else if i < L.length then
      match beg L i with
      | 2 =>
        match tagOf L (i + 1) with
        | (_, _, none) => out ++ fl p
        | (al, cl, some e) => implTok L f e (B (nameOf L (i + 1))) [] (out ++ fl p ++ [⟨2, nameOf L (i + 1), al, S [], cl⟩])
      | 3 =>
        match tagOf L (i + 2) with
        | (_, _, none) => out ++ fl p
        | (_, _, some e) => implTok L f e [] [] (out ++ fl p ++ [⟨3, nameOf L (i + 2), [], S [], false⟩])
      | 4 => implTok L f (commentI L (i + 4)).2 [] [] (out ++ fl p ++ [⟨4, S [], [], S (commentI L (i + 4)).1, false⟩])
      | 5 => implTok L f (behind L (fd L 62 (i + 9))) [] [] (out ++ fl p ++ [⟨5, docName (part L (i + 9) (fd L 62 (i + 9))), [], S [], false⟩])
      | 6 => implTok L f (behind L (fd L 62 (if L[i + 1]? = some 63 then i + 1 else i + 2))) [] [] (out ++ fl p ++ [⟨4, S [], [], S (part L (if L[i + 1]? = some 63 then i + 1 else i + 2) (fd L 62 (if L[i + 1]? = some 63 then i + 1 else i + 2))), false⟩])
      | 7 => implTok L f (i + 3) [] p out
      | _ => implTok L f (txI L (L.length - (i + 1)) (i + 1)) [] (p ++ refs false (part L i (txI L (L.length - (i + 1)) (i + 1)))) out
    else out ++ fl p
def NoText (out : List T) : Prop := ∀ x, out.getLast? = some x → x.f0 ≠ 1
theorem noText_snoc (out : List T) {x : T} (h : x.f0 ≠ 1) : NoText (out ++ [x]) := by
  intro y hy
  rw [List.getLast?_append, List.getLast?_singleton] at hy
  simp at hy
  subst hy
  exact h
theorem addText_fl {out : List T} (h : NoText out) (p t : Bs) (hp : ∀ b ∈ p, byte b) : addText (out ++ fl p) t = out ++ fl (p ++ t) := by
  unfold addText fl
  by_cases ct : t = []
  · subst ct; simp
  rw [if_neg ct]
  by_cases cp : p = []
  · subst cp
    rw [if_pos rfl, List.append_nil, List.nil_append, if_neg ct]
    cases ho : out.getLast? with
    | none =>
      have : out = [] := List.getLast?_eq_none_iff.1 ho
      subst this
      rfl
    | some x =>
      simp only
      rw [if_neg (h x ho)]
  · rw [if_neg cp, if_neg (by simp [cp]), List.getLast?_append, List.getLast?_singleton]
    simp only [Option.some_or]
    rw [if_pos (show (txt p).f0 = 1 from rfl), List.dropLast_concat]
    congr 1
    unfold txt
    simp only
    rw [B_S hp]
theorem pre_nil (l : Bs) : pre [] l = true := by simp [pre]
theorem pre_cons (x : Int) (w L : Bs) (i : Nat) : pre (x :: w) (L.drop i) = (decide (L[i]? = some x) && pre w (L.drop (i + 1))) := by
  unfold pre
  rcases Nat.lt_or_ge i L.length with h | h
  · rw [List.drop_eq_getElem_cons h, List.getElem?_eq_getElem h, Bool.eq_iff_iff]
    simp only [List.length_cons, List.take_succ_cons, List.cons.injEq, Option.some.injEq, decide_eq_true_eq, Bool.and_eq_true]
  · rw [List.drop_eq_nil_of_le h, List.getElem?_eq_none h]
    simp
theorem clI_ge (L nm : Bs) : ∀ (d i : Nat), i + d ≤ L.length → i ≤ clI L nm d i
  | 0, i, h => by unfold clI; omega
  | d + 1, i, h => by
    unfold clI
    split
    · split
      · exact Nat.le_refl _
      · have := clI_ge L nm d (i + 1) (by omega)
        omega
    · omega
theorem txI_ge (L : Bs) : ∀ (d j : Nat), j ≤ txI L d j
  | 0, j => Nat.le_refl _
  | d + 1, j => by
    unfold txI
    split
    · exact Nat.le_refl _
    · have := txI_ge L d (j + 1)
      omega
theorem tagI_gt (L : Bs) : ∀ (f i : Nat) (al : List A) (cl : Bool) (e : Nat), (tagI L f i al cl).2.2 = some e → i < e
  | 0, i, al, cl, e, h => by simp [tagI] at h
  | f + 1, i, al, cl, e, h => by
    have ho : i ≤ ov L i := Nat.le_add_right _ _
    unfold tagI at h
    split at h
    · simp at h
    · split at h
      · simp at h; omega
      · split at h
        · have := tagI_gt L f _ _ _ e h
          omega
        · have h1 : ov L i + 1 ≤ un L [47, 62, 61] (ov L i + 1) := Nat.le_add_right _ _
          have h2 : un L [47, 62, 61] (ov L i + 1) ≤ ov L (un L [47, 62, 61] (ov L i + 1)) := Nat.le_add_right _ _
          split at h
          · split at h
            · simp at h
            · rename_i v j hv
              have h3 := (valueI_le hv).1
              have h4 : ov L (un L [47, 62, 61] (ov L i + 1)) + 1 ≤ ov L (ov L (un L [47, 62, 61] (ov L i + 1)) + 1) := Nat.le_add_right _ _
              have := tagI_gt L f _ _ _ e h
              omega
          · have := tagI_gt L f _ _ _ e h
            omega
theorem tagOf_gt {L : Bs} {i e : Nat} (h : (tagOf L i).2.2 = some e) : i < e := by
  have h1 : i ≤ un L [47, 62] i := Nat.le_add_right _ _
  have := tagI_gt L _ _ _ _ e h
  omega
theorem cm_ge (L : Bs) : ∀ (d i : Nat), i + d ≤ L.length → i ≤ (cm L d i).2
  | 0, i, h => by unfold cm; simp; omega
  | d + 1, i, h => by
    unfold cm
    split
    · simp
    · split
      · simp
      · have := cm_ge L d (i + 1) (by omega)
        omega
theorem commentI_ge (L : Bs) (i : Nat) (h : i ≤ L.length) : i ≤ (commentI L i).2 := by
  unfold commentI
  split
  · simp
  · split
    · simp
    · exact cm_ge L _ i (by omega)
theorem behind_ge (L : Bs) (i : Nat) : i ≤ behind L i := by
  unfold behind
  split <;> omega
theorem fd_ge (L : Bs) (c : Int) (i : Nat) : i ≤ fd L c i := Nat.le_add_right _ _
theorem markupI_gt (L : Bs) (i : Nat) : i < (markupI L i).2 := by
  unfold markupI
  split
  · rename_i h
    have := pre_length h
    rw [List.length_drop] at this
    simp at this
    have := commentI_ge L (i + 4) (by omega)
    simp only
    omega
  · split
    · have := behind_ge L (fd L 62 (i + 9)); have := fd_ge L 62 (i + 9); simp only; omega
    · split
      · have := behind_ge L (fd L 62 (i + 1)); have := fd_ge L 62 (i + 1); simp only; omega
      · have := behind_ge L (fd L 62 (i + 2)); have := fd_ge L 62 (i + 2); simp only; omega
theorem markupI_kind (L : Bs) (i : Nat) : (tk (markupI L i).1).f0 ≠ 1 := by
  unfold markupI tk
  split
  · simp
  · split
    · simp
    · split <;> simp
theorem rawKind_nil : rawKind [] = 0 := by decide
theorem fl_nil : fl [] = [] := rfl
theorem same (L : Bs) (hL : ∀ b ∈ L, byte b) : ∀ (f i : Nat) (raw raw' p : Bs) (out : List T), NoText out → (∀ b ∈ p, byte b) → (0 < rawKind raw → raw' = raw) → (¬ 0 < rawKind raw → ¬ 0 < rawKind raw') →
    2 * (L.length - i) + (if 0 < rawKind raw then 1 else 0) < f → implTok L (f + 2) i raw' p out = specTok L f i raw (out ++ fl p) := by
  intro f
  induction f with
  | zero => intro i raw raw' p out _ _ _ _ h; omega
  | succ f ih =>
    intro i raw raw' p out hnt hp hr1 hr2 hf
    rw [show f + 1 + 2 = (f + 2) + 1 from rfl]
    generalize hg : f + 2 = g at ih ⊢
    have hpb : ∀ a b : Nat, ∀ x ∈ part L a b, byte x := fun a b x hx => hL x (List.mem_of_mem_drop (List.mem_of_mem_take hx))
    have hrb : ∀ a b : Nat, ∀ x ∈ refs false (part L a b), byte x := fun a b => refsF_byte false _ _ (hpb a b)
    have hpp : ∀ q : Bs, (∀ b ∈ q, byte b) → ∀ b ∈ p ++ q, byte b := fun q hq b hb => (List.mem_append.1 hb).elim (hp b) (hq b)
    by_cases hi : i < L.length
    · simp only [specTok]
      rw [if_pos hi]
      by_cases hraw : 0 < rawKind raw
      · rw [if_pos hraw]
        rw [if_pos hraw] at hf
        obtain rfl := hr1 hraw
        simp only [implTok]
        rw [if_pos hraw, addText_fl hnt _ _ hp]
        have hge := clI_ge L raw' (L.length - i) i (by omega)
        refine ih _ [] [] _ out hnt (hpp _ ?_) (fun _ => rfl) (fun h => h) ?_
        · unfold rawText
          split
          · exact hrb _ _
          · exact hpb _ _
        · rw [rawKind_nil]
          simp
          omega
      · rw [if_neg hraw]
        rw [if_neg hraw] at hf
        have hraw' := hr2 hraw
        have hkeep : ∀ (e : Nat) (x : T), x.f0 ≠ 1 → i < e → implTok L g e [] [] (out ++ fl p ++ [x]) = specTok L f e raw (out ++ fl p ++ [x]) := fun e x hx he => by
          have := ih e raw [] [] (out ++ fl p ++ [x]) (noText_snoc _ hx) (by simp) (fun h => absurd h hraw) (fun _ => by rw [rawKind_nil]; omega) (by rw [if_neg hraw]; omega)
          rwa [fl_nil, List.append_nil] at this
        simp only [implTok]
        rw [if_neg hraw', if_pos hi]
        by_cases ho : L[i]? = some 60 ∧ opens L i = true
        · rw [if_pos ho]
          obtain ⟨ha, hop⟩ := ho
          have hc : ∃ c, L[i + 1]? = some c := by
            unfold opens at hop
            cases hc : L[i + 1]? with
            | none => rw [hc] at hop; cases hop
            | some c => exact ⟨c, rfl⟩
          obtain ⟨c, hc⟩ := hc
          unfold opens at hop
          rw [hc] at hop
          have hp3 : pre [60, 47, 62] (L.drop i) = (decide (c = 47) && decide (L[i + 2]? = some 62)) := by
            rw [pre_cons, pre_cons, pre_cons, pre_nil, ha, hc]
            simp
          have hp4 : pre [60, 33, 45, 45] (L.drop i) = (decide (c = 33) && pre [45, 45] (L.drop (i + 2))) := by
            rw [pre_cons, pre_cons, ha, hc]
            simp
          have hdoc : c ≠ 33 → isDoc L i = false := fun h => by unfold isDoc; rw [hc]; simp [h]
          have hbeg : beg L i = (if letter c then 2 else if pre [60, 33, 45, 45] (L.drop i) then 4 else if isDoc L i then 5 else if c = 33 ∨ c = 63 then 6 else if c ≠ 47 then 0 else match L[i + 2]? with | none => 0 | some d => if letter d then 3 else if d = 62 then 7 else 6) := by
            unfold beg
            rw [ha, hc]
            simp
          cases hlc : letter c with
          | true =>
            have hc47 : c ≠ 47 := by rintro rfl; exact absurd hlc (by decide)
            rw [hbeg, hlc]
            simp only [if_true]
            rw [hp3, decide_eq_false hc47, Bool.false_and, if_neg (by simp), hc, if_neg (fun h => hc47 (by injection h)), if_pos hlc]
            obtain ⟨q, hq⟩ : ∃ q, tagOf L (i + 1) = q := ⟨_, rfl⟩
            rw [hq]
            obtain ⟨al, cl, oe⟩ := q
            cases oe with
            | none => rfl
            | some e =>
              have he := tagOf_gt (L := L) (i := i + 1) (e := e) (by rw [hq])
              have := ih e (B (nameOf L (i + 1))) (B (nameOf L (i + 1))) [] (out ++ fl p ++ [⟨2, nameOf L (i + 1), al, S [], cl⟩]) (noText_snoc _ (by simp)) (by simp) (fun _ => rfl) (fun h => h) (by split <;> omega)
              rwa [fl_nil, List.append_nil] at this
          | false =>
            by_cases c33 : c = 33 ∨ c = 63
            · have hc47 : c ≠ 47 := by rcases c33 with rfl | rfl <;> decide
              refine Eq.trans (b := specTok L f (markupI L i).2 raw (out ++ fl p ++ [tk (markupI L i).1])) ?_ ?_
              · have hm := hkeep (markupI L i).2 (tk (markupI L i).1) (markupI_kind L i) (markupI_gt L i)
                rw [← hm, hbeg, hlc]
                simp only [Bool.false_eq_true, if_false]
                unfold markupI
                cases h4 : pre [60, 33, 45, 45] (L.drop i) with
                | true => simp only [if_true]; rfl
                | false =>
                  simp only [Bool.false_eq_true, if_false]
                  cases h5 : isDoc L i with
                  | true => simp only [if_true]; rfl
                  | false =>
                    simp only [Bool.false_eq_true, if_false]
                    rw [if_pos c33, hc]
                    simp only
                    by_cases c63 : c = 63
                    · subst c63; simp only [if_true]; rfl
                    · have : ¬ some c = some (63 : Int) := fun h => c63 (by injection h)
                      simp only [this, if_false]; rfl
              · have : ¬ some c = some (47 : Int) := fun h => hc47 (by injection h)
                simp only [hp3, decide_eq_false hc47, Bool.false_and, Bool.false_eq_true, if_false, hc, this, hlc]
            · have hc47 : c = 47 ∧ i + 2 < L.length := by
                simp only [not_or] at c33
                simp [c33.1, c33.2, hlc] at hop
                exact hop
              obtain ⟨rfl, hi2⟩ := hc47
              have hd : L[i + 2]? = some L[i + 2] := List.getElem?_eq_getElem hi2
              generalize L[i + 2] = d at hd
              rw [hbeg, hlc, hp4, hdoc (by decide), hp3, hd, hc]
              simp only [Bool.false_eq_true, if_false, if_true, decide_true, Bool.true_and, show decide ((47 : Int) = 33) = false from rfl, Bool.false_and, show ¬ ((47 : Int) = 33 ∨ (47 : Int) = 63) from by decide, ne_eq, not_true_eq_false]
              by_cases cd : letter d = true
              · have hd62 : ¬ some d = some (62 : Int) := fun h => by injection h with h; rw [h] at cd; exact absurd cd (by decide)
                simp only [decide_eq_false hd62, Bool.false_eq_true, if_false, cd, if_true]
                obtain ⟨q, hq⟩ : ∃ q, tagOf L (i + 2) = q := ⟨_, rfl⟩
                simp only [hq]
                obtain ⟨al, cl, oe⟩ := q
                cases oe with
                | none => rfl
                | some e =>
                  have he := tagOf_gt (L := L) (i := i + 2) (e := e) (by rw [hq])
                  exact hkeep e ⟨3, nameOf L (i + 2), [], S [], false⟩ (by show (3 : Int) ≠ 1; decide) (by omega)
              · have cdf : letter d = false := by cases h : letter d with | true => exact absurd h cd | false => rfl
                by_cases c62 : d = 62
                · subst c62
                  simp only [cdf, Bool.false_eq_true, if_false, if_true, decide_true]
                  exact ih (i + 3) raw [] p out hnt hp (fun h => absurd h hraw) (fun _ => by rw [rawKind_nil]; omega) (by rw [if_neg hraw]; omega)
                · have hd62 : ¬ some d = some (62 : Int) := fun h => c62 (by injection h)
                  simp only [decide_eq_false hd62, cdf, Bool.false_eq_true, if_false, c62]
                  have hm := hkeep (markupI L i).2 (tk (markupI L i).1) (markupI_kind L i) (markupI_gt L i)
                  rw [← hm]
                  unfold markupI
                  rw [hp4, hdoc (by decide), hc]
                  simp [tk]
        · rw [if_neg ho, addText_fl hnt _ _ hp]
          have hb0 : beg L i = 0 := by
            unfold beg
            cases ha : L[i]? with
            | none => rfl
            | some a =>
              cases hc : L[i + 1]? with
              | none => rfl
              | some c =>
                simp only
                by_cases c60 : a = 60
                · have hop : opens L i = false := by
                    cases h : opens L i with
                    | false => rfl
                    | true => exact absurd ⟨by rw [ha, c60], h⟩ ho
                  unfold opens at hop
                  rw [hc] at hop
                  simp only [Bool.or_eq_false_iff, Bool.and_eq_false_iff] at hop
                  obtain ⟨⟨⟨h1, h2⟩, h3⟩, h4⟩ := hop
                  have h2' : c ≠ 33 := by simpa using h2
                  have h3' : c ≠ 63 := by simpa using h3
                  rw [if_neg (by simp [c60]), if_neg (by rw [h1]; simp), if_neg, if_neg, if_neg (by simp [h2', h3'])]
                  · by_cases c47 : c = 47
                    · rw [if_neg (by simp [c47])]
                      have : L.length ≤ i + 2 := by
                        rcases h4 with h4 | h4
                        · exact absurd c47 (by simpa using h4)
                        · simpa using h4
                      rw [List.getElem?_eq_none this]
                    · rw [if_pos c47]
                  · unfold isDoc
                    rw [hc]
                    simp [h2']
                  · rw [pre_cons, pre_cons, hc]
                    simp [h2']
                · rw [if_pos c60]
          rw [hb0]
          simp only
          have hge := txI_ge L (L.length - (i + 1)) (i + 1)
          exact ih _ raw [] _ out hnt (hpp _ (hrb _ _)) (fun h => absurd h hraw) (fun _ => by rw [rawKind_nil]; omega) (by rw [if_neg hraw]; omega)
    · simp only [specTok]
      rw [if_neg hi]
      simp only [implTok]
      by_cases hraw : 0 < rawKind raw'
      · rw [if_pos hraw, show L.length - i = 0 from by omega]
        obtain ⟨h, rfl⟩ : ∃ h, g = h + 1 := ⟨f + 1, by omega⟩
        simp only [implTok, clI]
        rw [if_neg (by rw [rawKind_nil]; omega)]
        simp only [Nat.lt_irrefl, if_false]
        have e : part L i L.length = [] := by unfold part; rw [show L.length - i = 0 from by omega]; simp
        rw [e]
        have e2 : rawText raw' [] = [] := by unfold rawText; split <;> rfl
        rw [e2, List.append_nil]
      · rw [if_neg hraw, if_neg hi]
end Go.Proofs.YtnjnoabldjodcaaDoor.Tok
