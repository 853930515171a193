/- Part 11 of the proof: TokEnds, TokText, TokCalls. -/
import Derived.Test.YtnjnoabldjodcaaDoorA8
import Derived.Test.YtnjnoabldjodcaaDoorA9
import Derived.Test.YtnjnoabldjodcaaDoorA10
set_option linter.unusedVariables false
set_option linter.unusedSimpArgs false
namespace Go.Proofs.YtnjnoabldjodcaaDoor.Tok
open Go.RowKit Go.Proofs.YtnjnoabldjodcaaDoorW.PrintWords Go.Proofs.YtnjnoabldjodcaaDoor.PFnExactTokens
theorem tag_l0 (s : ByteArray) (hs : s.size < 2 ^ 40) (kind : Int) (nm txt : ByteArray) : ∀ (f i : Nat) (al : List A) (cl : Bool), s.size < i + f → i ≤ s.size → al.length ≤ i →
    Ev (fun k => spec_l2Tag.l0 k s i kind kind nm al txt cl) (outT kind nm txt (tagI (B s) f i al cl)) := by
  intro f
  induction f with
  | zero => intro i al cl h hi; omega
  | succ f ih =>
    intro i al cl h hi ha
    have hov := over_f s (by omega) i hi
    have ho1 : i ≤ ov (B s) i := Nat.le_add_right _ _
    have ho2 : ov (B s) i ≤ s.size := by rw [← B_length]; exact sp_to (by rw [B_length]; exact hi)
    have hov2 : Ev (fun k => spec_l2Over.f k s i) ((ov (B s) i : Nat) : Int) := hov
    simp only [tagI]
    generalize ov (B s) i = o at hov2 ho1 ho2 ⊢
    rcases Nat.lt_or_ge o s.size with hlt | hge
    · have hg := B_get s o hlt
      rw [hg]
      simp only
      have eo1 : wrap64 ((o : Int) + 1) = ((o + 1 : Nat) : Int) := by rw [w64 (by omega) (by omega)]; rfl
      obtain ⟨K1, hK1⟩ := hov2
      dsimp only at hK1
      by_cases c1 : bt s o = 62
      · rw [if_pos c1]
        refine ⟨K1 + 1, fun k hk => ?_⟩
        obtain ⟨m, rfl⟩ : ∃ m, k = m + 1 := ⟨k - 1, by omega⟩
        simp only [spec_l2Tag.l0]
        rw [hK1 m (by omega), Option.bind_some, if_neg (by omega), if_pos (by omega), if_pos (by omega), if_pos c1, eo1]
        unfold outT
        simp only
        split <;> rfl
      · rw [if_neg c1]
        by_cases c2 : bt s o = 47
        · rw [if_pos c2]
          have hst := stands_f s ⟨#[62]⟩ (by omega) (by decide) (by decide) (o + 1)
          rw [show B ⟨#[62]⟩ = [62] from by decide] at hst
          obtain ⟨K2, hK2⟩ := ih (o + 1) al (cl || pre [62] ((B s).drop (o + 1))) (by omega) (by omega) (by omega)
          dsimp only at hK2
          refine ⟨K1 + K2 + 1, fun k hk => ?_⟩
          obtain ⟨m, rfl⟩ : ∃ m, k = m + 1 := ⟨k - 1, by omega⟩
          simp only [spec_l2Tag.l0]
          rw [hK1 m (by omega), Option.bind_some, if_neg (by omega), if_pos (by omega), if_pos (by omega), if_neg c1, if_pos c2, eo1, hst, Option.bind_some]
          have := hK2 m (by omega)
          cases cl with
          | true => simpa using this
          | false => simpa using this
        · rw [if_neg c2]
          have hun := until_f s ⟨#[47, 62, 61]⟩ (by omega) (by decide) (o + 1) (by omega)
          rw [show B ⟨#[47, 62, 61]⟩ = [47, 62, 61] from by decide] at hun
          have hun2 : Ev (fun k => spec_l2Until.f k s ((o + 1 : Nat) : Int) ⟨#[47, 62, 61]⟩) ((un (B s) [47, 62, 61] (o + 1) : Nat) : Int) := hun
          have he1 : o + 1 ≤ un (B s) [47, 62, 61] (o + 1) := Nat.le_add_right _ _
          have he2 : un (B s) [47, 62, 61] (o + 1) ≤ s.size := by rw [← B_length]; exact sp_to (by rw [B_length]; omega)
          generalize un (B s) [47, 62, 61] (o + 1) = e at hun2 he1 he2 ⊢
          have hlo := low_f (s.extract o e) (by rw [part_f, S_size]; have := part_le (B s) o e; rw [B_length] at this; omega)
          rw [show B (s.extract o e) = part (B s) o e from B_extract s _ _] at hlo
          have hov3 : Ev (fun k => spec_l2Over.f k s e) ((ov (B s) e : Nat) : Int) := over_f s (by omega) e he2
          have hp1 : e ≤ ov (B s) e := Nat.le_add_right _ _
          have hp2 : ov (B s) e ≤ s.size := by rw [← B_length]; exact sp_to (by rw [B_length]; exact he2)
          generalize ov (B s) e = p at hov3 hp1 hp2 ⊢
          have hst := stands_f s ⟨#[61]⟩ (by omega) (by decide) (by decide) p
          rw [show B ⟨#[61]⟩ = [61] from by decide] at hst
          obtain ⟨K2, hK2⟩ := hun2
          dsimp only at hK2
          obtain ⟨K3, hK3⟩ := hlo
          dsimp only at hK3
          obtain ⟨K4, hK4⟩ := hov3
          dsimp only at hK4
          generalize hnm : S (low (part (B s) o e)) = n1 at hK3 ⊢
          obtain ⟨K5, hK5⟩ := has_f al n1 (by omega)
          dsimp only at hK5
          cases hpe : pre [61] ((B s).drop p) with
          | true =>
            simp only [if_true]
            rw [hpe] at hst
            have hpl : p + 1 ≤ s.size := by
              have := pre_length hpe
              rw [List.length_drop, B_length] at this
              simp at this
              omega
            have hov4 : Ev (fun k => spec_l2Over.f k s ((p + 1 : Nat) : Int)) ((ov (B s) (p + 1) : Nat) : Int) := over_f s (by omega) (p + 1) hpl
            have hq1 : p + 1 ≤ ov (B s) (p + 1) := Nat.le_add_right _ _
            have hq2 : ov (B s) (p + 1) ≤ s.size := by rw [← B_length]; exact sp_to (by rw [B_length]; exact hpl)
            generalize ov (B s) (p + 1) = q at hov4 hq1 hq2 ⊢
            obtain ⟨K6, hK6⟩ := hov4
            dsimp only at hK6
            obtain ⟨K7, hK7⟩ := value_f s (by omega) q hq2
            dsimp only at hK7
            have ep1 : wrap64 ((p : Int) + 1) = ((p + 1 : Nat) : Int) := by rw [w64 (by omega) (by omega)]; rfl
            cases hv : valueI (B s) q with
            | none =>
              rw [hv] at hK7
              refine ⟨K1 + K2 + K3 + K4 + K6 + K7 + 1, fun k hk => ?_⟩
              obtain ⟨m, rfl⟩ : ∃ m, k = m + 1 := ⟨k - 1, by omega⟩
              simp only [spec_l2Tag.l0]
              rw [hK1 m (by omega), Option.bind_some, if_neg (by omega), if_pos (by omega), if_pos (by omega), if_neg c1, if_neg c2, eo1, hK2 m (by omega), Option.bind_some, if_pos (by omega), if_pos (by omega), Int.toNat_natCast, Int.toNat_natCast, hK3 m (by omega), Option.bind_some, hK4 m (by omega), Option.bind_some, hst, Option.bind_some, if_pos rfl, ep1, hK6 m (by omega), Option.bind_some, hK7 m (by omega), Option.bind_some, if_pos (by simp [outV])]
              rfl
            | some vj =>
              obtain ⟨v, j⟩ := vj
              rw [hv] at hK7
              obtain ⟨hj1, hj2⟩ := valueI_le hv
              rw [B_length] at hj2
              obtain ⟨K8, hK8⟩ := ih j (addA al ⟨n1, S v⟩) cl (by omega) hj2 (by have := addA_length al ⟨n1, S v⟩; omega)
              dsimp only at hK8
              refine ⟨K1 + K2 + K3 + K4 + K5 + K6 + K7 + K8 + 1, fun k hk => ?_⟩
              obtain ⟨m, rfl⟩ : ∃ m, k = m + 1 := ⟨k - 1, by omega⟩
              simp only [spec_l2Tag.l0]
              rw [hK1 m (by omega), Option.bind_some, if_neg (by omega), if_pos (by omega), if_pos (by omega), if_neg c1, if_neg c2, eo1, hK2 m (by omega), Option.bind_some, if_pos (by omega), if_pos (by omega), Int.toNat_natCast, Int.toNat_natCast, hK3 m (by omega), Option.bind_some, hK4 m (by omega), Option.bind_some, hst, Option.bind_some, if_pos rfl, ep1, hK6 m (by omega), Option.bind_some, hK7 m (by omega), Option.bind_some, if_neg (by simp [outV]), hK5 m (by omega), Option.bind_some]
              have h8 := hK8 m (by omega)
              unfold addA at h8 ⊢
              simp only [outV] at h8 ⊢
              cases hh : hasA al n1 with
              | true => rw [hh] at h8; simpa using h8
              | false =>
                rw [hh] at h8
                simp only [Bool.false_eq_true, if_false] at h8 ⊢
                rw [if_pos (by omega)]
                exact h8
          | false =>
            simp only [Bool.false_eq_true, if_false]
            rw [hpe] at hst
            obtain ⟨K8, hK8⟩ := ih p (addA al ⟨n1, S []⟩) cl (by omega) hp2 (by have := addA_length al ⟨n1, S []⟩; omega)
            dsimp only at hK8
            refine ⟨K1 + K2 + K3 + K4 + K5 + K8 + 1, fun k hk => ?_⟩
            obtain ⟨m, rfl⟩ : ∃ m, k = m + 1 := ⟨k - 1, by omega⟩
            simp only [spec_l2Tag.l0]
            rw [hK1 m (by omega), Option.bind_some, if_neg (by omega), if_pos (by omega), if_pos (by omega), if_neg c1, if_neg c2, eo1, hK2 m (by omega), Option.bind_some, if_pos (by omega), if_pos (by omega), Int.toNat_natCast, Int.toNat_natCast, hK3 m (by omega), Option.bind_some, hK4 m (by omega), Option.bind_some, hst, Option.bind_some, if_neg (by simp), hK5 m (by omega), Option.bind_some]
            have h8 := hK8 m (by omega)
            unfold addA at h8 ⊢
            simp only [outV] at h8 ⊢
            cases hh : hasA al n1 with
            | true => rw [hh] at h8; simpa using h8
            | false =>
              rw [hh] at h8
              simp only [Bool.false_eq_true, if_false] at h8 ⊢
              rw [if_pos (by omega)]
              exact h8
    · rw [List.getElem?_eq_none (by rw [B_length]; exact hge)]
      obtain ⟨K1, hK1⟩ := hov2
      dsimp only at hK1
      refine ⟨K1 + 1, fun k hk => ?_⟩
      obtain ⟨m, rfl⟩ : ∃ m, k = m + 1 := ⟨k - 1, by omega⟩
      simp only [spec_l2Tag.l0]
      rw [hK1 m (by omega), Option.bind_some, if_pos (by omega)]
      rfl
theorem tag_f (s : ByteArray) (hs : s.size < 2 ^ 40) (kind : Int) (i : Nat) (hi : i ≤ s.size) : Ev (fun k => spec_l2Tag.f k s i kind) (outT kind (nameOf (B s) i) (S []) (tagOf (B s) i)) := by
  have hun := until_f s ⟨#[47, 62]⟩ (by omega) (by decide) i hi
  rw [show B ⟨#[47, 62]⟩ = [47, 62] from by decide] at hun
  have hun2 : Ev (fun k => spec_l2Until.f k s i ⟨#[47, 62]⟩) ((un (B s) [47, 62] i : Nat) : Int) := hun
  have he1 : i ≤ un (B s) [47, 62] i := Nat.le_add_right _ _
  have he2 : un (B s) [47, 62] i ≤ s.size := by rw [← B_length]; exact sp_to (by rw [B_length]; omega)
  unfold tagOf nameOf
  generalize un (B s) [47, 62] i = e at hun2 he1 he2 ⊢
  have hlo := low_f (s.extract i e) (by rw [part_f, S_size]; have := part_le (B s) i e; rw [B_length] at this; omega)
  rw [show B (s.extract i e) = part (B s) i e from B_extract s _ _] at hlo
  obtain ⟨K1, hK1⟩ := hun2
  dsimp only at hK1
  obtain ⟨K2, hK2⟩ := hlo
  dsimp only at hK2
  obtain ⟨K3, hK3⟩ := tag_l0 s hs kind (S (low (part (B s) i e))) (S []) ((B s).length + 1) e [] false (by rw [B_length]; omega) he2 (by simp)
  dsimp only at hK3
  refine ⟨K1 + K2 + K3, fun k hk => ?_⟩
  simp only [spec_l2Tag.f]
  rw [hK1 k (by omega), Option.bind_some, if_pos (by omega), if_pos (by omega), if_pos (by omega), Int.toNat_natCast, Int.toNat_natCast, hK2 k (by omega), Option.bind_some]
  exact hK3 k (by omega)
theorem close_l0 (s nm : ByteArray) (hs : s.size < 2 ^ 44) (hn : nm.size < 2 ^ 44) : ∀ (d i : Nat), i + d = s.size → Ev (fun k => spec_l2Close.l0 k s nm i) ((clI (B s) (B nm) d i : Nat) : Int) := by
  intro d
  induction d with
  | zero =>
    intro i h
    refine Ev.done fun k => ?_
    simp only [spec_l2Close.l0, clI]
    rw [w64 (n := (i : Int) + 2) (by omega) (by omega), w64 (by omega) (by omega), if_neg (by omega), B_length]
  | succ d ih =>
    intro i h
    simp only [clI]
    have e2 : wrap64 ((i : Int) + 2) = ((i + 2 : Nat) : Int) := by rw [w64 (by omega) (by omega)]; rfl
    have e3 : wrap64 (((i + 2 : Nat) : Int) + (nm.size : Int)) = ((i + 2 + nm.size : Nat) : Int) := by rw [w64 (by omega) (by omega)]; omega
    have e1 : wrap64 ((i : Int) + 1) = ((i + 1 : Nat) : Int) := by rw [w64 (by omega) (by omega)]; rfl
    by_cases c : i + 2 + (B nm).length < (B s).length
    · rw [if_pos c]
      rw [B_length, B_length] at c
      have g0 := B_get s i (by omega)
      have g1 := B_get s (i + 1) (by omega)
      have gE := B_get s (i + 2 + nm.size) (by omega)
      have hp := pre2 (x := 60) (y := 47) g0 g1
      have hlo := low_f (s.extract (i + 2) (i + 2 + nm.size)) (by rw [part_f, S_size]; have := part_le (B s) (i + 2) (i + 2 + nm.size); rw [B_length] at this; omega)
      rw [show B (s.extract (i + 2) (i + 2 + nm.size)) = part (B s) (i + 2) (i + 2 + nm.size) from B_extract s _ _] at hlo
      have hen := ends_f (bt s ((i + 2 + nm.size : Nat) : Int)) ⟨#[47, 62]⟩ (by decide)
      rw [show B ⟨#[47, 62]⟩ = [47, 62] from by decide] at hen
      obtain ⟨K1, hK1⟩ := hlo
      dsimp only at hK1
      obtain ⟨K2, hK2⟩ := hen
      dsimp only at hK2
      obtain ⟨K3, hK3⟩ := ih (i + 1) (by omega)
      dsimp only at hK3
      have hcl : isClose (B s) (B nm) i = ((decide (bt s i = 60) && decide (bt s ((i + 1 : Nat) : Int) = 47)) && (decide (low (part (B s) (i + 2) (i + 2 + nm.size)) = B nm) && endsIn [47, 62] (bt s ((i + 2 + nm.size : Nat) : Int)))) := by
        unfold isClose
        rw [hp, B_length, gE]
      refine ⟨K1 + K2 + K3 + 1, fun k hk => ?_⟩
      obtain ⟨m, rfl⟩ : ∃ m, k = m + 1 := ⟨k - 1, by omega⟩
      simp only [spec_l2Close.l0]
      rw [e2, e3, e1, if_pos (by omega), if_pos (by omega), if_pos (by omega), hcl]
      have hno := hK3 m (by omega)
      by_cases c1 : bt s i = 60
      · rw [if_pos c1, if_pos (by omega), if_pos (by omega)]
        by_cases c2 : bt s ((i + 1 : Nat) : Int) = 47
        · rw [if_pos c2, if_pos (by omega), if_pos (by omega), if_pos (by omega), Int.toNat_natCast, Int.toNat_natCast, hK1 m (by omega), Option.bind_some, decide_eq_true c1, decide_eq_true c2]
          have hbe : (S (low (part (B s) (i + 2) (i + 2 + nm.size)))).toList = nm.toList ↔ low (part (B s) (i + 2) (i + 2 + nm.size)) = B nm := by
            rw [toList_eq, B_S]
            intro x hx
            obtain ⟨y, hy, rfl⟩ := List.mem_map.1 hx
            exact lowB_byte (part_byte s _ _ y hy)
          by_cases c3 : low (part (B s) (i + 2) (i + 2 + nm.size)) = B nm
          · rw [if_pos (hbe.2 c3), if_pos (by omega), hK2 m (by omega), Option.bind_some, decide_eq_true c3]
            unfold endsIn
            cases (white (bt s ((i + 2 + nm.size : Nat) : Int)) || [47, 62].contains (bt s ((i + 2 + nm.size : Nat) : Int))) with
            | true => rfl
            | false => exact hno
          · rw [if_neg (fun h => c3 (hbe.1 h)), decide_eq_false c3]
            exact hno
        · rw [if_neg c2, decide_eq_true c1, decide_eq_false c2]
          exact hno
      · rw [if_neg c1, decide_eq_false c1]
        exact hno
    · rw [if_neg c]
      rw [B_length, B_length] at c
      refine Ev.done fun k => ?_
      simp only [spec_l2Close.l0]
      rw [e2, e3, if_neg (by omega), B_length]
theorem close_f (s nm : ByteArray) (hs : s.size < 2 ^ 44) (hn : nm.size < 2 ^ 44) (i : Nat) (hi : i ≤ s.size) : Ev (fun k => spec_l2Close.f k s i nm) ((clI (B s) (B nm) (s.size - i) i : Nat) : Int) :=
  (close_l0 s nm hs hn (s.size - i) i (by omega)).same fun k => by simp only [spec_l2Close.f]
theorem markup_f (s : ByteArray) (hs : s.size < 2 ^ 44) (i : Nat) (hi : i + 1 < s.size) : Ev (fun k => spec_l2Markup.f k s i) (outM (markupI (B s) i)) := by
  have h1 := stands_f s ⟨#[60, 33, 45, 45]⟩ (by omega) (by decide) (by decide) i
  rw [show B ⟨#[60, 33, 45, 45]⟩ = [60, 33, 45, 45] from by decide] at h1
  have e1 : wrap64 ((i : Int) + 1) = ((i + 1 : Nat) : Int) := by rw [w64 (by omega) (by omega)]; rfl
  have e2 : wrap64 ((i : Int) + 2) = ((i + 2 : Nat) : Int) := by rw [w64 (by omega) (by omega)]; rfl
  have e4 : wrap64 ((i : Int) + 4) = ((i + 4 : Nat) : Int) := by rw [w64 (by omega) (by omega)]; rfl
  have e9 : wrap64 ((i : Int) + 9) = ((i + 9 : Nat) : Int) := by rw [w64 (by omega) (by omega)]; rfl
  have g1 := B_get s (i + 1) hi
  unfold markupI
  cases c1 : pre [60, 33, 45, 45] ((B s).drop i) with
  | true =>
    simp only [if_true]
    have hl : i + 4 ≤ s.size := by
      have := pre_length c1
      rw [List.length_drop, B_length] at this
      simp at this
      omega
    obtain ⟨K1, hK1⟩ := comment_f s hs (i + 4) hl
    dsimp only at hK1
    refine ⟨K1, fun k hk => ?_⟩
    simp only [spec_l2Markup.f]
    rw [h1, c1, Option.bind_some, if_pos rfl, e4, hK1 k hk, Option.bind_some]
    rfl
  | false =>
    simp only [Bool.false_eq_true, if_false]
    have hfin : ∀ (a : Nat), a ≤ s.size → ∃ K, ∀ k, K ≤ k → spec_l2Find.f k s a 62 = some ((fd (B s) 62 a : Nat) : Int) ∧ a ≤ fd (B s) 62 a ∧ fd (B s) 62 a ≤ s.size := fun a ha => by
      obtain ⟨K, hK⟩ := find_f s (by omega) 62 a ha
      exact ⟨K, fun k hk => ⟨hK k hk, Nat.le_add_right _ _, by rw [← B_length]; exact sp_to (by rw [B_length]; exact ha)⟩⟩
    have hbh : ∀ a : Nat, a ≤ s.size → spec_l2Behind.f a s = some ((behind (B s) a : Nat) : Int) := fun a ha => by
      rw [behind_f s (by omega) a ha]
      unfold behind
      rw [B_length]
    have hj : ∀ b : Bool, isDoc (B s) i = b → (b = true → i + 9 ≤ s.size) → Ev (fun k => spec_l2Markup.j0 k s i b) (outM (if isDoc (B s) i then ((5, docName (part (B s) (i + 9) (fd (B s) 62 (i + 9))), [], S [], false), behind (B s) (fd (B s) 62 (i + 9)))
        else if (B s)[i + 1]? = some 63 then ((4, S [], [], S (part (B s) (i + 1) (fd (B s) 62 (i + 1))), false), behind (B s) (fd (B s) 62 (i + 1)))
        else ((4, S [], [], S (part (B s) (i + 2) (fd (B s) 62 (i + 2))), false), behind (B s) (fd (B s) 62 (i + 2))))) := fun b hb h9 => by
      rw [hb]
      cases b with
      | true =>
        simp only [if_true]
        have h9 := h9 rfl
        obtain ⟨K1, hK1⟩ := hfin (i + 9) h9
        have hle := (hK1 K1 (Nat.le_refl _)).2
        generalize hE : fd (B s) 62 (i + 9) = E at hK1 hle ⊢
        have hx : B (s.extract (i + 9) E) = part (B s) (i + 9) E := B_extract s _ _
        have hxs : (s.extract (i + 9) E).size < 2 ^ 44 := by rw [part_f, S_size]; have := part_le (B s) (i + 9) E; rw [B_length] at this; omega
        obtain ⟨t, ht⟩ : ∃ t, s.extract (i + 9) E = t := ⟨_, rfl⟩
        rw [ht] at hx hxs
        have ho : Ev (fun k => spec_l2Over.f k t 0) ((ov (B t) 0 : Nat) : Int) := over_f t (by omega) 0 (by omega)
        have ho2 : ov (B t) 0 ≤ t.size := by rw [← B_length]; exact sp_to (by omega)
        rw [← hx]
        unfold docName
        generalize ov (B t) 0 = o at ho ho2 ⊢
        have hu : Ev (fun k => spec_l2Until.f k t o ⟨#[]⟩) ((un (B t) [] o : Nat) : Int) := until_f t ⟨#[]⟩ (by omega) (by decide) o ho2
        have hu1 : o ≤ un (B t) [] o := Nat.le_add_right _ _
        have hu2 : un (B t) [] o ≤ t.size := by rw [← B_length]; exact sp_to (by rw [B_length]; exact ho2)
        generalize un (B t) [] o = u at hu hu1 hu2 ⊢
        have hlo := low_f (t.extract o u) (by rw [part_f, S_size]; have := part_le (B t) o u; rw [B_length] at this; omega)
        rw [show B (t.extract o u) = part (B t) o u from B_extract t _ _] at hlo
        obtain ⟨K2, hK2⟩ := ho
        dsimp only at hK2
        obtain ⟨K3, hK3⟩ := hu
        dsimp only at hK3
        obtain ⟨K4, hK4⟩ := hlo
        dsimp only at hK4
        refine ⟨K1 + K2 + K3 + K4 + 1, fun k hk => ?_⟩
        obtain ⟨m, rfl⟩ : ∃ m, k = m + 1 := ⟨k - 1, by omega⟩
        simp only [spec_l2Markup.j0, if_true]
        rw [e9, (hK1 m (by omega)).1, Option.bind_some, if_pos (by omega), if_pos (by omega), if_pos (by omega), Int.toNat_natCast, Int.toNat_natCast, ht, hK2 m (by omega), Option.bind_some, hK3 m (by omega), Option.bind_some, if_pos (by omega), if_pos (by omega), if_pos (by omega), Int.toNat_natCast, Int.toNat_natCast, hK4 m (by omega), Option.bind_some, hbh E hle.2, Option.bind_some]
        rfl
      | false =>
        simp only [Bool.false_eq_true, if_false]
        by_cases c2 : bt s ((i + 1 : Nat) : Int) = 63
        · rw [if_pos (by rw [g1, c2])]
          obtain ⟨K1, hK1⟩ := hfin (i + 1) (by omega)
          refine ⟨K1 + 1, fun k hk => ?_⟩
          obtain ⟨m, rfl⟩ : ∃ m, k = m + 1 := ⟨k - 1, by omega⟩
          have h := hK1 m (by omega)
          simp only [spec_l2Markup.j0, Bool.false_eq_true, if_false]
          rw [e1, if_pos (by omega), if_pos (by omega), if_pos c2, h.1, Option.bind_some, if_pos (by omega), if_pos (by omega), hbh _ h.2.2, Option.bind_some, Int.toNat_natCast, Int.toNat_natCast, part_f]
          rfl
        · rw [if_neg (by rw [g1]; intro h; injection h with h; exact c2 h)]
          obtain ⟨K1, hK1⟩ := hfin (i + 2) (by omega)
          refine ⟨K1 + 1, fun k hk => ?_⟩
          obtain ⟨m, rfl⟩ : ∃ m, k = m + 1 := ⟨k - 1, by omega⟩
          have h := hK1 m (by omega)
          simp only [spec_l2Markup.j0, Bool.false_eq_true, if_false]
          rw [e1, e2, if_pos (by omega), if_pos (by omega), if_neg c2, h.1, Option.bind_some, if_pos (by omega), if_pos (by omega), if_pos (by omega), hbh _ h.2.2, Option.bind_some, Int.toNat_natCast, Int.toNat_natCast, part_f]
          rfl
    have hd : isDoc (B s) i = (decide (i + 9 ≤ s.size) && (decide (bt s ((i + 1 : Nat) : Int) = 33) && decide (low (part (B s) (i + 2) (i + 9)) = [100, 111, 99, 116, 121, 112, 101]))) := by
      unfold isDoc
      rw [g1, B_length]
      simp
    by_cases c9 : i + 9 ≤ s.size
    · by_cases c33 : bt s ((i + 1 : Nat) : Int) = 33
      · have hlo := low_f (s.extract (i + 2) (i + 9)) (by rw [part_f, S_size]; have := part_le (B s) (i + 2) (i + 9); rw [B_length] at this; omega)
        rw [show B (s.extract (i + 2) (i + 9)) = part (B s) (i + 2) (i + 9) from B_extract s _ _] at hlo
        obtain ⟨K1, hK1⟩ := hlo
        dsimp only at hK1
        have hbe : ((S (low (part (B s) (i + 2) (i + 9)))).toList == ([100, 111, 99, 116, 121, 112, 101] : List UInt8)) = isDoc (B s) i := by
          rw [hd, decide_eq_true c9, decide_eq_true c33, Bool.true_and, Bool.true_and, Bool.eq_iff_iff, beq_iff_eq, decide_eq_true_eq]
          have e : ([100, 111, 99, 116, 121, 112, 101] : List UInt8) = (⟨#[100, 111, 99, 116, 121, 112, 101]⟩ : ByteArray).toList := by rw [toList_data]
          rw [e, toList_eq, B_S]
          · rw [show B ⟨#[100, 111, 99, 116, 121, 112, 101]⟩ = [100, 111, 99, 116, 121, 112, 101] from by decide]
          · intro x hx
            obtain ⟨y, hy, rfl⟩ := List.mem_map.1 hx
            exact lowB_byte (part_byte s _ _ y hy)
        obtain ⟨K2, hK2⟩ := hj _ hbe.symm (fun _ => c9)
        dsimp only at hK2
        refine ⟨K1 + K2, fun k hk => ?_⟩
        simp only [spec_l2Markup.f]
        rw [h1, c1, Option.bind_some, if_neg (by simp), e9, e1, e2, if_pos (by omega), if_pos (by omega), if_pos (by omega), if_pos c33, if_pos (by omega), if_pos (by omega), Int.toNat_natCast, Int.toNat_natCast, hK1 k (by omega), Option.bind_some]
        exact hK2 k (by omega)
      · obtain ⟨K2, hK2⟩ := hj false (by rw [hd, decide_eq_false c33]; simp) (fun h => by cases h)
        dsimp only at hK2
        refine ⟨K2, fun k hk => ?_⟩
        simp only [spec_l2Markup.f]
        rw [h1, c1, Option.bind_some, if_neg (by simp), e9, e1, if_pos (by omega), if_pos (by omega), if_pos (by omega), if_neg c33]
        exact hK2 k (by omega)
    · obtain ⟨K2, hK2⟩ := hj false (by rw [hd, decide_eq_false c9]; rfl) (fun h => by cases h)
      dsimp only at hK2
      refine ⟨K2, fun k hk => ?_⟩
      simp only [spec_l2Markup.f]
      rw [h1, c1, Option.bind_some, if_neg (by simp), e9, if_neg (by omega)]
      exact hK2 k (by omega)
end Go.Proofs.YtnjnoabldjodcaaDoor.Tok
set_option linter.unusedVariables false
set_option linter.unusedSimpArgs false
namespace Go.Proofs.YtnjnoabldjodcaaDoor.Tok
open Go.RowKit Go.Proofs.YtnjnoabldjodcaaDoorW.PrintWords Go.Proofs.YtnjnoabldjodcaaDoorW.PrintLast Go.Proofs.YtnjnoabldjodcaaDoorW.PrintMore Go.Proofs.YtnjnoabldjodcaaDoor.PFnExactTokens
theorem info36 : (Tryd.prog.info? 36).map (fun i => (i.zero, i.size, i.bytes)) = some (some (.agg #[.int .i64 0, .string ⟨#[]⟩, .slice none 0 0, .string ⟨#[]⟩, .bool false]), 5, 72) := by kernel_rfl
example := Tryd.underlying22
abbrev TokRow (w : World) (base : Nat) (v : Value) (l : List T) : Prop := Kd.R k36 36 w base (fun _ => True) v l
theorem addText_nil (out : List T) : addText out (B ⟨#[]⟩) = out := by unfold addText; rw [if_pos (by decide)]
theorem add_some {out : List T} {t : ByteArray} {x : T} (ht : B t ≠ []) (hx : out.getLast? = some x) (h1 : x.f0 = 1) : addText out (B t) = out.set (out.length - 1) { x with f3 := x.f3 ++ t } := by
  unfold addText
  rw [if_neg ht, hx]
  simp only
  rw [if_pos h1, show S (B x.f3 ++ B t) = x.f3 ++ t from by
    apply B_inj
    rw [B_S]
    · unfold B bytesOf; simp
    · intro b hb
      rcases List.mem_append.1 hb with h | h
      · exact B_byte _ b h
      · exact B_byte _ b h]
  rcases List.eq_nil_or_concat out with rfl | ⟨l, y, rfl⟩
  · simp at hx
  · simp at hx
    subst hx
    simp
theorem add_new {out : List T} {t : ByteArray} (ht : B t ≠ []) (hx : ∀ x, out.getLast? = some x → x.f0 ≠ 1) : addText out (B t) = out ++ [⟨1, ⟨#[]⟩, [], t, false⟩] := by
  unfold addText
  rw [if_neg ht]
  have e : txt (B t) = ⟨1, ⟨#[]⟩, [], t, false⟩ := by unfold txt; rw [S_B]; rfl
  cases hg : out.getLast? with
  | none => simp only; rw [e, List.getLast?_eq_none_iff.1 hg]; rfl
  | some x => simp only; rw [if_neg (hx x hg), e]
theorem row_last {w : World} {base : Nat} {A : Option Addr} {c : Nat} {out : List T} (hr : TokRow w base (.slice A out.length c) out) (h0 : 0 < out.length) :
    ∃ g x v2, A = some ⟨g, 0, none⟩ ∧ out.getLast? = some x ∧ Kd.R k62 62 w base (fun k => k ≠ g) v2 x.f2 ∧ (∀ j u, [Value.int .i64 x.f0, .string x.f1, v2, .string x.f3, .bool x.f4][j]? = some u → w.cell? ⟨g, (out.length - 1) * 5 + j, none⟩ = some u) ∧ w.frozen? ⟨g, (out.length - 1) * 5 + 3, none⟩ = false := by
  obtain ⟨g, hg, hf⟩ : ∃ g, A = some ⟨g, 0, none⟩ ∧ ∀ j, w.frozen? ⟨g, j, none⟩ = false := by
    obtain ⟨inner, ho⟩ := Kd.R_own hr
    rcases ho.2 with ⟨hv, h2⟩ | ⟨g, cap', cur, hv, _, hh, _⟩
    · exfalso
      injection hv with ha hn _
      omega
    · injection hv with ha _ _
      exact ⟨g, ha, fun j => blk_frozen hh j⟩
  subst hg
  obtain ⟨cs, hl, hM, hc⟩ := Kd.R_get hr z36 ((out.length - 1 : Nat) : Int) (by omega) (by omega)
  have hx : out.getLast? = some (out.getD ((out.length - 1 : Nat) : Int).toNat z36) := by
    rw [List.getLast?_eq_getElem?, Int.toNat_natCast, List.getD_eq_getElem?_getD, List.getElem?_eq_getElem (by omega)]
    rfl
  generalize out.getD ((out.length - 1 : Nat) : Int).toNat z36 = x at hx hM
  obtain ⟨v2, rfl, h2⟩ := k36_openM hM
  refine ⟨g, x, v2, rfl, hx, Kd.R_mono h2 (fun k hk e => hk.2 (by rw [e]; rfl)), fun j u hj => ?_, hf _⟩
  have := hc j u hj
  have e : (⟨g, 0, none⟩ : Addr).add ((out.length - 1) * 5 + j) = ⟨g, (out.length - 1) * 5 + j, none⟩ := by
    unfold Addr.add
    split
    · rename_i h; rw [show (out.length - 1) * 5 + j = 0 from by simpa using h]
    · simp
  rw [← e]
  exact this
set_option maxHeartbeats 4000000 in
set_option maxRecDepth 100000 in
theorem l2Text_calls (base : Nat) (w0 w : World) (v : Value) (out : List T) (t : ByteArray) (hr : TokRow w base v out) (hb : Below base w0 w) (hbase : base ≤ w.heap.size) (hl : out.length < 2 ^ 30) (ht6 : t.size < 2 ^ 40) (ho6 : ∀ x ∈ out, x.f3.size < 2 ^ 40) :
    Calls Tryd.prog 12 #[v, .string t] w fun e w' => ∃ v', e = .returned v' ∧ TokRow w' base v' (addText out (B t)) ∧ Below base w0 w' := by
  have hu36 := Tryd.underlying36
  obtain ⟨A, c, rfl⟩ := Kd.R_slice hr
  have HR := Aside0.mk hr
  have HB := Aside0.mk hb
  by_cases ht : t = ⟨#[]⟩
  · subst ht
    clear hr hb
    go_enter Tryd.func12, Tryd.ntmps12
    go_wp2
    go_ret
    exact ⟨_, rfl, by rw [addText_nil]; exact HR.out, HB.out⟩
  · have htn : B t ≠ [] := fun h => ht (B_inj (h.trans (by decide)))
    have ht0 : (t.toList == ([] : List UInt8)) = false := by
      rw [beq_eq_false_iff_ne]
      intro h
      exact htn ((toList_eq (b := (⟨#[]⟩ : ByteArray))).1 (h.trans (by rw [toList_data])))
    have HTN := Aside0.mk htn
    have HTT := Aside0.mk ht0
    have APP : (∀ x, out.getLast? = some x → x.f0 ≠ 1) → (0 < out.length → ∃ (g : Nat) (k : Int), A = some ⟨g, 0, none⟩ ∧ (k == 1) = false ∧ w.cell? ⟨g, (out.length - 1) * 5, none⟩ = some (.int .i64 k)) →
        Calls Tryd.prog 12 #[.slice A out.length c, .string t] w fun e w' => ∃ v', e = .returned v' ∧ TokRow w' base v' (addText out (B t)) ∧ Below base w0 w' := fun hx hcell => by
      have HX := Aside0.mk hx
      clear hr hb ht htn hx HTT ho6
      rcases Nat.eq_zero_or_pos out.length with h0 | h0
      · clear hcell
        rw [h0]
        have HZ := Aside0.mk h0
        clear h0
        go_enter Tryd.func12, Tryd.ntmps12
        go_wp2_with (((with_reducible refine gate_builtin (b := .append) (xs := #[.tmp 36, .tmp 39]) rfl ?_); at_builtin; refine Kd.R_append k36 (w0 := w0) base rfl (.tmp 36) (.tmp 39) 22 36 (.agg #[.int .i64 0, .string ⟨#[]⟩, .slice none 0 0, .string ⟨#[]⟩, .bool false]) 72 rfl Tryd.underlying22 info36 rfl (by decide) (by omega) (.slice A 0 c) out (⟨1, ⟨#[]⟩, [], t, false⟩ : S36) [.int .i64 1, .string ⟨#[]⟩, .slice none 0 0, .string t, .bool false] (fun _ => True) (fun _ => False) rfl rfl ?aP (fun _ hk => hk.elim) ?aF ?aO ?aB ?aS ?aL ?_; (case aP => exact k36_mkM _ _ _ (⟨1, ⟨#[]⟩, [], t, false⟩ : S36) (Kd.R_nil _ _ _ _ _)); (case aB => exact HB.out); (case aF => exact (fun _ _ => trivial)); (case aO => have h := HR.out; rw [HZ.out] at h; exact h); (case aS => exact hbase); (case aL => have h := HZ.out; omega); intro v8 w8 hr8 hb8 hg8 hm8; have HR8 := Aside0.mk hr8; have HB8 := Aside0.mk hb8; clear hr8 hb8 hg8 hm8))
        go_ret
        refine ⟨v8, rfl, ?_, HB8.out⟩
        rw [add_new HTN.out HX.out]
        exact HR8.out
      · obtain ⟨g, k, rfl, hk, hc⟩ := hcell h0
        clear hcell
        obtain ⟨m, hm⟩ : ∃ m, m = out.length := ⟨_, rfl⟩
        rw [← hm] at hc h0 hl ⊢
        have HM := Aside0.mk hm
        have e1 : wrap64 ((m : Int) - 1) = ((m - 1 : Nat) : Int) := by rw [w64 (by omega) (by omega)]; omega
        clear hm
        go_enter Tryd.func12, Tryd.ntmps12
        go_wp2_with (((with_reducible refine gate_builtin (b := .append) (xs := #[.tmp 36, .tmp 39]) rfl ?_); at_builtin; refine Kd.R_append k36 (w0 := w0) base rfl (.tmp 36) (.tmp 39) 22 36 (.agg #[.int .i64 0, .string ⟨#[]⟩, .slice none 0 0, .string ⟨#[]⟩, .bool false]) 72 rfl Tryd.underlying22 info36 rfl (by decide) (by omega) (.slice (some ⟨g, 0, none⟩) m c) out (⟨1, ⟨#[]⟩, [], t, false⟩ : S36) [.int .i64 1, .string ⟨#[]⟩, .slice none 0 0, .string t, .bool false] (fun _ => True) (fun _ => False) rfl rfl ?aP (fun _ hk => hk.elim) ?aF ?aO ?aB ?aS ?aL ?_; (case aP => exact k36_mkM _ _ _ (⟨1, ⟨#[]⟩, [], t, false⟩ : S36) (Kd.R_nil _ _ _ _ _)); (case aB => exact HB.out); (case aF => exact (fun _ _ => trivial)); (case aO => have h := HR.out; rw [← HM.out] at h; exact h); (case aS => exact hbase); (case aL => have h := HM.out; omega); intro v8 w8 hr8 hb8 hg8 hm8; have HR8 := Aside0.mk hr8; have HB8 := Aside0.mk hb8; clear hr8 hb8 hg8 hm8))
        go_ret
        refine ⟨v8, rfl, ?_, HB8.out⟩
        rw [add_new HTN.out HX.out]
        exact HR8.out
    rcases Nat.eq_zero_or_pos out.length with h0 | h0
    · exact APP (fun x hx => by rw [List.eq_nil_of_length_eq_zero h0] at hx; cases hx) (fun h => by omega)
    · obtain ⟨g, x, v2, rfl, hx, hv2, hcells, hfz⟩ := row_last hr h0
      by_cases h1 : x.f0 = 1
      · have HX := Aside0.mk (And.intro hx h1)
        have HV := Aside0.mk hv2
        have HC := Aside0.mk hcells
        have hc0 : w.cell? ⟨g, (out.length - 1) * 5, none⟩ = some (.int .i64 1) := by rw [← h1]; exact hcells 0 _ rfl
        have hc3 : w.cell? ⟨g, (out.length - 1) * 5 + 3, none⟩ = some (.string x.f3) := hcells 3 _ rfl
        obtain ⟨m, hm⟩ : ∃ m, m = out.length := ⟨_, rfl⟩
        rw [← hm] at hc0 hc3 h0 hl hfz ⊢
        have HM := Aside0.mk hm
        have hx6 := ho6 x (List.mem_of_getLast? hx)
        clear hm hr hb ht htn hx h1 hv2 hcells APP ho6
        go_enter Tryd.func12, Tryd.ntmps12
        go_wp2_with (((with_reducible refine gate_ (.store 9 (.tmp 34) (.tmp 32)) rfl ?_); refine Kd.R_store k36 (w0 := w0) base rfl rfl 9 (.tmp 34) (.tmp 32) rfl 36 (g := g) (n := m) (cap := c) ((m - 1 : Nat) : Int) 3 out { x with f3 := x.f3 ++ t } (.string (x.f3 ++ t)) [.string (x.f3 ++ t)] [.int .i64 x.f0, .string x.f1, v2, .string x.f3, .bool x.f4] (fun _ => True) (fun k => k ≠ g) rfl ?b1 rfl rfl ?b2 (by simp [Value.oneCell']) ?b3 (by omega) (by omega) rfl ?b4 (show 3 + 1 ≤ 5 from by decide) ?b5 (fun _ h => ⟨trivial, h⟩) HB.out ?_; (case b1 => rw [Int.toNat_natCast]; rfl); (case b2 => show (Tryd.prog.info? 9).map (fun i => i.size) = some 1; kernel_rfl); (case b3 => have h := HR.out; rw [← HM.out] at h; exact h); (case b4 => intro j u h; have := HC.out j u h; rw [← HM.out] at this; rw [Int.toNat_natCast]; exact this); (case b5 => exact k36_mkM _ _ _ ({ x with f3 := x.f3 ++ t } : S36) HV.out); intro w8 hr8 hb8 hg8; have HR8 := Aside0.mk hr8; have HB8 := Aside0.mk hb8; clear hr8 hb8 hg8))
        go_ret
        refine ⟨_, rfl, ?_, HB8.out⟩
        rw [add_some HTN.out HX.out.1 HX.out.2, ← HM.out]
        have h := HR8.out
        have e : (({ x with f3 := x.f3 ++ t } : T)) = { x with f3 := x.f3 ++ t } := rfl
        rw [Int.toNat_natCast] at h
        have e2 : m = (out.set (m - 1) { x with f3 := x.f3 ++ t }).length := by rw [List.length_set]; exact HM.out
        exact h
      · exact APP (fun y hy => by rw [hx] at hy; injection hy with hy; subst hy; exact h1) (fun _ => ⟨g, x.f0, rfl, by rw [beq_eq_false_iff_ne]; exact h1, hcells 0 _ rfl⟩)
end Go.Proofs.YtnjnoabldjodcaaDoor.Tok
set_option linter.unusedVariables false
set_option linter.unusedSimpArgs false
namespace Go.Proofs.YtnjnoabldjodcaaDoor.Tok
open Go.RowKit Go.Proofs.YtnjnoabldjodcaaDoorW.PrintWords Go.Proofs.YtnjnoabldjodcaaDoorW.PrintLast Go.Proofs.YtnjnoabldjodcaaDoorW.PrintMore Go.Proofs.YtnjnoabldjodcaaDoor.PFnExactTokens
theorem rawKind_calls (n : ByteArray) (w : World) : Calls Tryd.prog 9 #[.string n] w fun e w' => e = .returned (.int .i64 (rawKind (B n))) ∧ Below w.heap.size w w' := by
  obtain ⟨k, hk⟩ := (rawKind_f n).some
  exact (spec_RawKind.calls k n _ w hk).mono fun e w' h => ⟨h.1, h.2.below⟩
theorem close_calls (s nm : ByteArray) (hs : s.size < 2 ^ 40) (hn : nm.size < 2 ^ 40) (i : Nat) (hi : i ≤ s.size) (w : World) : Calls Tryd.prog 10 #[.string s, .int .i64 i, .string nm] w fun e w' => e = .returned (.int .i64 (clI (B s) (B nm) (s.size - i) i : Nat)) ∧ Below w.heap.size w w' := by
  obtain ⟨k, hk⟩ := (close_f s nm (by omega) (by omega) i hi).some
  exact spec_l2Close.calls k s i nm _ w hk
theorem refs_calls (s : ByteArray) (hs : s.size < 2 ^ 40) (a : Bool) (w : World) : Calls Tryd.prog 11 #[.string s, .bool a] w fun e w' => e = .returned (.string (S (refs a (B s)))) ∧ Below w.heap.size w w' := by
  obtain ⟨k, hk⟩ := (refs_f s (by omega) a).some
  exact spec_l2Refs.calls k s a _ w hk
theorem opens_calls (s : ByteArray) (hs : s.size < 2 ^ 40) (i : Nat) (hi : i ≤ s.size) (w : World) : Calls Tryd.prog 13 #[.string s, .int .i64 i] w fun e w' => e = .returned (.bool (opens (B s) i)) ∧ Below w.heap.size w w' :=
  (spec_l2Opens.calls s i _ w (opens_f s (by omega) i hi)).mono fun e w' h => ⟨h.1, h.2.below⟩
theorem stands_calls (s m : ByteArray) (hs : s.size < 2 ^ 40) (hm : m.size < 2 ^ 40) (h0 : 0 < m.size) (i : Nat) (w : World) : Calls Tryd.prog 14 #[.string s, .int .i64 i, .string m] w fun e w' => e = .returned (.bool (pre (B m) ((B s).drop i))) ∧ Below w.heap.size w w' :=
  (spec_l2Stands.calls s i m _ w (stands_f s m (by omega) (by omega) h0 i)).mono fun e w' h => ⟨h.1, h.2.below⟩
theorem letter_calls (b : Int) (w : World) : Calls Tryd.prog 15 #[.int .u8 b] w fun e w' => e = .returned (.bool (letter b)) ∧ Below w.heap.size w w' :=
  (spec_l1Letter.calls b _ w (letter_f b)).mono fun e w' h => ⟨h.1, h.2.below⟩
theorem markup_calls (s : ByteArray) (hs : s.size < 2 ^ 40) (i : Nat) (hi : i + 1 < s.size) (w : World) : Calls Tryd.prog 16 #[.string s, .int .i64 i] w fun e w' =>
    ∃ v2, e = .returned (.tuple #[.agg #[.int .i64 (tk (markupI (B s) i).1).f0, .string (tk (markupI (B s) i).1).f1, v2, .string (tk (markupI (B s) i).1).f3, .bool (tk (markupI (B s) i).1).f4], .int .i64 ((markupI (B s) i).2 : Nat)]) ∧ Kd.R k62 62 w' w.heap.size (fun _ => True) v2 (tk (markupI (B s) i).1).f2 ∧ Below w.heap.size w w' := by
  obtain ⟨k, hk⟩ := (markup_f s (by omega) i hi).some
  exact spec_l2Markup.calls k s i _ _ _ _ _ _ w hk
theorem tag_calls (s : ByteArray) (hs : s.size < 2 ^ 38) (i : Nat) (hi : i ≤ s.size) (kind : Int) (w : World) : Calls Tryd.prog 17 #[.string s, .int .i64 i, .int .i64 kind] w fun e w' =>
    ∃ v2, e = .returned (.tuple #[.agg #[.int .i64 (outT kind (nameOf (B s) i) (S []) (tagOf (B s) i)).1, .string (outT kind (nameOf (B s) i) (S []) (tagOf (B s) i)).2.1, v2, .string (outT kind (nameOf (B s) i) (S []) (tagOf (B s) i)).2.2.2.1, .bool (outT kind (nameOf (B s) i) (S []) (tagOf (B s) i)).2.2.2.2.1], .int .i64 (outT kind (nameOf (B s) i) (S []) (tagOf (B s) i)).2.2.2.2.2]) ∧ Kd.R k62 62 w' w.heap.size (fun _ => True) v2 (outT kind (nameOf (B s) i) (S []) (tagOf (B s) i)).2.2.1 ∧ Below w.heap.size w w' := by
  obtain ⟨k, hk⟩ := (tag_f s (by omega) kind i hi).some
  exact spec_l2Tag.calls k s i kind _ _ _ _ _ _ w hk
theorem tag_none (s : ByteArray) (hs : s.size < 2 ^ 38) (i : Nat) (hi : i ≤ s.size) (kind : Int) {al : List A} {cl : Bool} (h : tagOf (B s) i = (al, cl, none)) (w : World) : Calls Tryd.prog 17 #[.string s, .int .i64 i, .int .i64 kind] w fun e w' =>
    ∃ v2, e = .returned (.tuple #[.agg #[.int .i64 kind, .string (nameOf (B s) i), v2, .string ⟨#[]⟩, .bool cl], .int .i64 (-1)]) ∧ Kd.R k62 62 w' w.heap.size (fun _ => True) v2 al ∧ Below w.heap.size w w' := by
  have := tag_calls s hs i hi kind w
  rw [h] at this
  exact this
theorem tag_end (s : ByteArray) (hs : s.size < 2 ^ 38) (i : Nat) (hi : i ≤ s.size) {al : List A} {cl : Bool} {e : Nat} (h : tagOf (B s) i = (al, cl, some e)) (w : World) : Calls Tryd.prog 17 #[.string s, .int .i64 i, .int .i64 3] w fun o w' =>
    ∃ v2, o = .returned (.tuple #[.agg #[.int .i64 3, .string (nameOf (B s) i), v2, .string ⟨#[]⟩, .bool false], .int .i64 e]) ∧ Kd.R k62 62 w' w.heap.size (fun _ => True) v2 ([] : List A) ∧ Below w.heap.size w w' := by
  have := tag_calls s hs i hi 3 w
  rw [h] at this
  exact this
theorem tag_start (s : ByteArray) (hs : s.size < 2 ^ 38) (i : Nat) (hi : i ≤ s.size) {al : List A} {cl : Bool} {e : Nat} (h : tagOf (B s) i = (al, cl, some e)) (w : World) : Calls Tryd.prog 17 #[.string s, .int .i64 i, .int .i64 2] w fun o w' =>
    ∃ v2, o = .returned (.tuple #[.agg #[.int .i64 2, .string (nameOf (B s) i), v2, .string ⟨#[]⟩, .bool cl], .int .i64 e]) ∧ Kd.R k62 62 w' w.heap.size (fun _ => True) v2 al ∧ Below w.heap.size w w' := by
  have := tag_calls s hs i hi 2 w
  rw [h] at this
  exact this
theorem refsF_len (a : Bool) : ∀ (f : Nat) (l : Bs), (refsF a f l).length ≤ 4 * f
  | 0, _ => by simp [refsF]
  | f + 1, [] => by simp [refsF]
  | f + 1, b :: l => by
    unfold refsF
    split
    · have h1 := (reference_small a (b :: l)).1
      have h2 := refsF_len a f ((b :: l).drop (reference a (b :: l)).2)
      rw [List.length_append]
      omega
    · have h2 := refsF_len a f l
      rw [List.length_cons]
      omega
theorem refs_len (a : Bool) (l : Bs) : (refs a l).length ≤ 4 * l.length := refsF_len a _ _
def Small (N : Nat) (out : List T) (r : Nat) : Prop := out.length ≤ r ∧ ∀ x ∈ out, x.f3.size ≤ r * N
theorem Small.snoc {N : Nat} {out : List T} {r : Nat} (h : Small N out r) {x : T} (hx : x.f3.size ≤ N) : Small N (out ++ [x]) (r + 1) := by
  refine ⟨by rw [List.length_append]; have := h.1; simp; omega, fun y hy => ?_⟩
  rw [Nat.succ_mul]
  rcases List.mem_append.1 hy with hy | hy
  · have := h.2 y hy; omega
  · simp at hy; subst hy; omega
theorem Small.step {N : Nat} {out : List T} {r : Nat} (h : Small N out r) : Small N out (r + 1) := ⟨by have := h.1; omega, fun y hy => by rw [Nat.succ_mul]; have := h.2 y hy; omega⟩
theorem Small.text {N : Nat} {out : List T} {r : Nat} (h : Small N out r) {t : Bs} (ht : t.length ≤ N) : Small N (addText out t) (r + 1) := by
  unfold addText
  split
  · exact h.step
  · split
    · rename_i x hx
      split
      · refine ⟨by have := h.1; simp only [List.length_append, List.length_dropLast, List.length_singleton]; omega, fun y hy => ?_⟩
        rw [Nat.succ_mul]
        rcases List.mem_append.1 hy with hy | hy
        · have := h.2 y ((List.dropLast_sublist _).mem hy); omega
        · simp only [List.mem_singleton] at hy
          subst hy
          have := h.2 x (List.mem_of_getLast? hx)
          simp only
          rw [S_size, List.length_append, B_length]
          omega
      · exact h.snoc (by show (S t).size ≤ _; rw [S_size]; exact ht)
    · have := Small.snoc (N := N) (out := []) (r := r) ⟨by simp, by simp⟩ (x := txt t) (by show (S t).size ≤ _; rw [S_size]; exact ht)
      exact this
end Go.Proofs.YtnjnoabldjodcaaDoor.Tok
