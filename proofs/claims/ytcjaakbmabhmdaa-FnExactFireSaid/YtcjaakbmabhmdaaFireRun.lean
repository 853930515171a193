/- What the reference's Fire comes to. -/
import Derived.Test.YtcjaakbmabhmdaaPkTree
import Derived.Test.YtcjaakbmabhmdaaPkHA
import Derived.Test.YtcjaakbmabhmdaaPkPar
import Derived.Test.YtcjaakbmabhmdaaPkTo2
import Derived.Test.YtcjaakbmabhmdaaPkEqB
import Derived.Test.YtcjaakbmabhmdaaPkMk
import Derived.Test.YtcjaakbmabhmdaaX10
import Derived.Test.YtcjaakbmabhmdaaTr
import Derived.Test.YtcjaakbmabhmdaaFireSpec
import Derived.Test.YtcjaakbmabhmdaaFireTree
set_option linter.unusedVariables false
namespace Go.Proofs.Ytcjaakbmabhmdaa.FireSpec
open Go.RowKit Go.Proofs.YtcjaakbmabhmdaaW.PrintWords Go.Proofs.Ytcjaakbmabhmdaa.PFnExactFire Go.Proofs.Ytcjaakbmabhmdaa.Tr

/-! ### l4At -/
/-- The place of an Id. -/
def place (ns : List Node) (id : Int) : Option Nat := ns.findIdx? (fun n => decide (n.f0 = id))
theorem at_l0 (ns : List Node) (id : Int) (hb : ns.length < 2 ^ 62) : ∀ (d i : Nat), i + d = ns.length →
    Ev (fun k => spec_l4At.l0 k id i ns) (match (ns.drop i).findIdx? (fun n => decide (n.f0 = id)) with | some j => ((i + j : Nat) : Int) | none => -1) := by
  intro d
  induction d with
  | zero =>
    intro i h
    rw [List.drop_eq_nil_of_le (by omega)]
    exact Ev.done fun k => by simp only [spec_l4At.l0]; rw [if_neg (by omega)]; rfl
  | succ d ih =>
    intro i h
    have hi : i < ns.length := by omega
    have hr : rd_T52 ns (i : Int) = ns[i] := by simp [rd_T52, hi]
    rw [List.drop_eq_getElem_cons hi, List.findIdx?_cons]
    by_cases e : ns[i].f0 = id
    · simp only [e, decide_true, if_true]
      exact Ev.done fun k => by simp only [spec_l4At.l0]; rw [if_pos (by omega), if_pos (by omega), hr, if_pos e]; rfl
    · simp only [e, decide_false, Bool.false_eq_true, if_false]
      refine Ev.step (g := fun k => spec_l4At.l0 k id ((i + 1 : Nat) : Int) ns) ?_ (fun k => by
        simp only [spec_l4At.l0]; rw [if_pos (by omega), if_pos (by omega), hr, if_neg e, w64 (by omega) (by omega)]; rfl)
      have := ih (i + 1) (by omega)
      cases hf : (ns.drop (i + 1)).findIdx? (fun n => decide (n.f0 = id)) with
      | none => rw [hf] at this; simpa using this
      | some j =>
        rw [hf] at this
        simp only [Option.map_some]
        rw [show i + (j + 1) = i + 1 + j from by omega]
        exact this
theorem at_f (ns : List Node) (id : Int) (hb : ns.length < 2 ^ 62) : Ev (fun k => spec_l4At.f k ns id) (match place ns id with | some j => (j : Int) | none => -1) := by
  have := at_l0 ns id hb ns.length 0 (by omega)
  simp only [List.drop_zero, Nat.zero_add] at this
  exact this

/-! ### l20HandlersOk -/
def handsOk (hs : List Hand) : Bool := decide (hs.length ≤ 1000) && hs.all (fun h => decide (0 ≤ h.f3 ∧ h.f3 ≤ 2))
theorem hands_l0 (hs : List Hand) (hb : hs.length < 2 ^ 62) : ∀ (d i : Nat), i + d = hs.length →
    Ev (fun k => spec_l20HandlersOk.l0 k hs i) ((hs.drop i).all (fun h => decide (0 ≤ h.f3 ∧ h.f3 ≤ 2))) := by
  intro d
  induction d with
  | zero =>
    intro i h
    rw [List.drop_eq_nil_of_le (by omega)]
    exact Ev.done fun k => by simp only [spec_l20HandlersOk.l0]; rw [if_neg (by omega)]; rfl
  | succ d ih =>
    intro i h
    have hi : i < hs.length := by omega
    have hr : rd_T53 hs (i : Int) = hs[i] := by simp [rd_T53, hi]
    rw [List.drop_eq_getElem_cons hi, List.all_cons]
    by_cases c1 : hs[i].f3 < 0
    · rw [decide_eq_false (by omega), Bool.false_and]
      exact Ev.done fun k => by simp only [spec_l20HandlersOk.l0]; rw [if_pos (by omega), if_pos (by omega), hr, if_pos c1]
    by_cases c2 : hs[i].f3 > 2
    · rw [decide_eq_false (by omega), Bool.false_and]
      exact Ev.done fun k => by simp only [spec_l20HandlersOk.l0]; rw [if_pos (by omega), if_pos (by omega), hr, if_neg c1, if_pos c2]
    rw [decide_eq_true (by omega), Bool.true_and]
    refine (ih (i + 1) (by omega)).step fun k => ?_
    simp only [spec_l20HandlersOk.l0]
    rw [if_pos (by omega), if_pos (by omega), hr, if_neg c1, if_neg c2, w64 (by omega) (by omega)]
    rfl
theorem hands_f (hs : List Hand) (hb : hs.length < 2 ^ 62) : Ev (fun k => spec_l20HandlersOk.f k hs) (handsOk hs) := by
  unfold handsOk
  by_cases h : 1000 < hs.length
  · rw [decide_eq_false (by omega), Bool.false_and]
    exact Ev.same (Ev.const false) fun k => by simp only [spec_l20HandlersOk.f]; rw [if_pos (by omega)]
  · rw [decide_eq_true (by omega), Bool.true_and]
    have := hands_l0 hs hb hs.length 0 (by omega)
    rw [List.drop_zero] at this
    exact this.same fun k => by simp only [spec_l20HandlersOk.f]; rw [if_neg (by omega)]; rfl

/-! ### l4Parents -/
/-- P stands in the innermost frame, as the kid that was begun last; a frame: a node, and how many of its kids have begun. -/
def Under (ks : List Nat) : List (Nat × Nat) → Nat → Prop
  | [], P => P = 0
  | (P2, i2) :: r, P => 0 < i2 ∧ Kid ks P2 (i2 - 1) P ∧ Under ks r P2
/-- The frames that are open ahead of place j. -/
def Open (ks : List Nat) : List (Nat × Nat) → Nat → Prop
  | [], _ => True
  | (P, i) :: r, j => P < ks.length ∧ i ≤ ks.getD P 0 ∧ E ks (P + 1) i = some j ∧ Under ks r P
def leftOf (ks : List Nat) (f : Nat × Nat) : Nat := ks.getD f.1 0 - f.2
theorem Open.pop {ks : List Nat} {P i j : Nat} {r : List (Nat × Nat)} (h : Open ks ((P, i) :: r) j) (h0 : leftOf ks (P, i) = 0) : Open ks r j ∧ (r = [] → E ks 0 1 = some j) := by
  obtain ⟨hP, hi, hE, hU⟩ := h
  have hi' : i = ks.getD P 0 := by simp only [leftOf] at h0; omega
  have hone : E ks P 1 = some j := by rw [E_step (m := 0) hP, Nat.add_zero, ← hi']; exact hE
  cases r with
  | nil => exact ⟨trivial, fun _ => by obtain rfl : P = 0 := hU; exact hone⟩
  | cons f r =>
    obtain ⟨P2, i2⟩ := f
    obtain ⟨h2, ⟨k1, k2, k3⟩, hU2⟩ := hU
    refine ⟨⟨k1, by omega, ?_, hU2⟩, fun h => by cases h⟩
    rw [show i2 = (i2 - 1) + 1 from by omega, E_add, k3]
    exact hone
theorem Open.push {ks : List Nat} {P i j : Nat} {r : List (Nat × Nat)} (h : Open ks ((P, i) :: r) j) (h0 : 0 < leftOf ks (P, i)) (hj : j < ks.length) : Open ks ((j, 0) :: (P, i + 1) :: r) (j + 1) ∧ Kid ks P i j := by
  obtain ⟨hP, hi, hE, hU⟩ := h
  simp only [leftOf] at h0
  have hK : Kid ks P i j := ⟨hP, by omega, hE⟩
  exact ⟨⟨hj, Nat.zero_le _, E_zero _ _, by omega, by simpa using hK, hU⟩, hK⟩
theorem kids_at {ns : List Node} {i : Nat} (hi : i < ns.length) : (kids ns).getD i 0 = kid ns[i] := by
  rw [List.getD_eq_getElem?_getD, kids, List.getElem?_map, List.getElem?_eq_getElem hi]; rfl
def popF (ks : List Nat) : List (Nat × Nat) → List (Nat × Nat)
  | [] => []
  | f :: r => if leftOf ks f = 0 then popF ks r else f :: r
theorem popF_open {ks : List Nat} {j : Nat} : ∀ F : List (Nat × Nat), Open ks F j → Open ks (popF ks F) j ∧ (popF ks F = [] → F ≠ [] → E ks 0 1 = some j)
  | [], h => ⟨h, fun _ h => absurd rfl h⟩
  | (P, i) :: r, h => by
    unfold popF
    split
    · rename_i h0
      obtain ⟨h1, h2⟩ := h.pop h0
      obtain ⟨h3, h4⟩ := popF_open r h1
      refine ⟨h3, fun he _ => ?_⟩
      cases r with
      | nil => exact h2 rfl
      | cons f r => exact h4 he (by simp)
    · exact ⟨h, fun h => by cases h⟩
theorem popF_length (ks : List Nat) : ∀ F : List (Nat × Nat), (popF ks F).length ≤ F.length
  | [] => Nat.le_refl _
  | f :: r => by
    unfold popF
    split
    · have := popF_length ks r; simp; omega
    · exact Nat.le_refl _
theorem popF_head (ks : List Nat) : ∀ (F : List (Nat × Nat)) (f : Nat × Nat) (r : List (Nat × Nat)), popF ks F = f :: r → 0 < leftOf ks f
  | [], _, _, h => by cases h
  | g :: s, f, r, h => by
    unfold popF at h
    split at h
    · exact popF_head ks s f r h
    · injection h with h1 h2
      subst h1
      omega
def stackOf (F : List (Nat × Nat)) : List Int := ints (F.map (·.1))
def leftsOf (ks : List Nat) (F : List (Nat × Nat)) : List Int := ints (F.map (leftOf ks))
theorem stackOf_cons (f : Nat × Nat) (F : List (Nat × Nat)) : stackOf (f :: F) = stackOf F ++ [(f.1 : Int)] := ints_cons _ _
theorem leftsOf_cons (ks : List Nat) (f : Nat × Nat) (F : List (Nat × Nat)) : leftsOf ks (f :: F) = leftsOf ks F ++ [(leftOf ks f : Int)] := ints_cons _ _
theorem stackOf_length (F : List (Nat × Nat)) : (stackOf F).length = F.length := by simp [stackOf, ints]
theorem leftsOf_length (ks : List Nat) (F : List (Nat × Nat)) : (leftsOf ks F).length = F.length := by simp [leftsOf, ints]
theorem pars_l1 (ns : List Node) (ks : List Nat) (out : List Int) (j : Int) (r : List Int) : ∀ F : List (Nat × Nat), F.length ≤ 4001 →
    Ev (fun k => spec_l4Parents.l0 k ns out (stackOf (popF ks F)) (leftsOf ks (popF ks F)) (wrap64 (j + 1))) r →
    Ev (fun k => spec_l4Parents.l1 k ns out (stackOf F) (leftsOf ks F) j) r
  | [], _, h => h.step fun k => by simp only [spec_l4Parents.l1]; rw [if_neg (by simp [leftsOf, ints])]; rfl
  | f :: F, hl, h => by
    simp only [List.length_cons] at hl
    have h0 : ((leftsOf ks F ++ [(leftOf ks f : Int)]).length : Int) = F.length + 1 := by simp [leftsOf_length]
    have h0' : ((stackOf F ++ [(f.1 : Int)]).length : Int) = F.length + 1 := by simp [stackOf_length]
    have h1 : wrap64 (((F.length : Nat) : Int) + 1 - 1) = (F.length : Int) := by
      rw [w64 (by omega) (by omega)]
      omega
    have hrd : rd (leftsOf ks F ++ [(leftOf ks f : Int)]) (F.length : Int) = leftOf ks f := by rw [← leftsOf_length ks F]; exact rd_last _ _
    have ht : (stackOf F ++ [(f.1 : Int)]).take F.length = stackOf F := by rw [← stackOf_length F]; simp
    have ht' : (leftsOf ks F ++ [(leftOf ks f : Int)]).take F.length = leftsOf ks F := by rw [← leftsOf_length ks F]; simp
    by_cases ha : leftOf ks f = 0
    · refine (pars_l1 ns ks out j r F (by omega) (by simpa [popF, ha] using h)).step fun k => ?_
      simp only [spec_l4Parents.l1, stackOf_cons, leftsOf_cons, h0, h0', h1]
      rw [if_pos (by omega), if_pos (by omega), if_pos (by omega), hrd, if_pos (by omega), if_pos (by omega), if_pos (by omega), if_pos (by omega), Int.toNat_natCast, ht, ht']
    · refine h.step fun k => ?_
      simp only [spec_l4Parents.l1, stackOf_cons, leftsOf_cons, h0, h0', h1]
      rw [if_pos (by omega), if_pos (by omega), if_pos (by omega), hrd, if_neg (by omega)]
      simp [popF, ha, stackOf_cons, leftsOf_cons]
/-- What the list of parents says from place j on. -/
def ParsFrom (ks : List Nat) (res : List Int) (j n : Nat) : Prop := ∀ j', j ≤ j' → j' < n → (j' = 0 → res.getD j' 0 = -1) ∧ (0 < j' → ∃ P i, Kid ks P i j' ∧ res.getD j' 0 = (P : Int))
theorem pars_l0 (ns : List Node) (hb : ns.length ≤ 4000) (hk : ∀ n ∈ ns, 0 ≤ n.f5) (hm : ∀ n ∈ ns, n.f5 ≤ ns.length) (hw : E (kids ns) 0 1 = some ns.length) : ∀ (d j : Nat) (out : List Int) (F : List (Nat × Nat)), j + d = ns.length → out.length = ns.length →
    Open (kids ns) F j → (∀ f r, F = f :: r → 0 < leftOf (kids ns) f) → (F = [] → j = 0 ∨ j = ns.length) → (j = 0 → F = []) → F.length ≤ j →
    ∃ res : List Int, Ev (fun k => spec_l4Parents.l0 k ns out (stackOf F) (leftsOf (kids ns) F) j) res ∧ res.length = ns.length ∧ (∀ j', j' < j → res.getD j' 0 = out.getD j' 0) ∧ ParsFrom (kids ns) res j ns.length := by
  intro d
  induction d with
  | zero =>
    intro j out F h ho _ _ _ _ _
    refine ⟨out, Ev.done fun k => by simp only [spec_l4Parents.l0]; rw [if_neg (by omega)], ho, fun _ _ => rfl, fun j' h1 h2 => by omega⟩
  | succ d ih =>
    intro j out F h ho hO hhead hnil hj0 hlF
    have hj : j < ns.length := by omega
    have hkl : (kids ns).length = ns.length := by simp [kids]
    have hr : rd_T52 ns (j : Int) = ns[j] := by simp [rd_T52, hj]
    have hkid : ((kid ns[j] : Nat) : Int) = ns[j].f5 := by have := hk _ (List.getElem_mem hj); unfold kid; omega
    have hl00 : leftOf (kids ns) (j, 0) = kid ns[j] := by simp only [leftOf, kids_at hj, Nat.sub_zero]
    have hset : ∀ (l : List Int) (v : Int), l.length = ns.length → (l.set j v).getD j 0 = v := fun l v hl => by
      rw [List.getD_eq_getElem?_getD, List.getElem?_set_self (by omega)]; rfl
    have hsetne : ∀ (l : List Int) (v : Int) (j' : Nat), j' ≠ j → (l.set j v).getD j' 0 = l.getD j' 0 := fun l v j' hne => by
      rw [List.getD_eq_getElem?_getD, List.getD_eq_getElem?_getD, List.getElem?_set_ne (by omega)]
    -- behind the two cases: push, pop, go on
    have key : ∀ (out2 : List Int) (F2 : List (Nat × Nat)), out2.length = ns.length → Open (kids ns) ((j, 0) :: F2) (j + 1) → F2.length ≤ j →
        ∃ res : List Int, Ev (fun k => spec_l4Parents.j1 k ns out2 (stackOf F2) (leftsOf (kids ns) F2) j) res ∧ res.length = ns.length ∧ (∀ j', j' < j + 1 → res.getD j' 0 = out2.getD j' 0) ∧ ParsFrom (kids ns) res (j + 1) ns.length := by
      intro out2 F2 ho2 hO2 hl2
      obtain ⟨hp1, hp2⟩ := popF_open _ hO2
      have hpl := popF_length (kids ns) ((j, 0) :: F2)
      simp only [List.length_cons] at hpl
      obtain ⟨res, he, hrl, hre, hrp⟩ := ih (j + 1) out2 (popF (kids ns) ((j, 0) :: F2)) (by omega) ho2 hp1 (fun f r hf => popF_head _ _ f r hf)
        (fun hf => .inr (by have := hp2 hf (by simp); rw [hw] at this; injection this with this; omega)) (by omega) (by omega)
      refine ⟨res, ?_, hrl, hre, hrp⟩
      refine Ev.step (g := fun k => spec_l4Parents.l1 k ns out2 (stackOf ((j, 0) :: F2)) (leftsOf (kids ns) ((j, 0) :: F2)) j) ?_ (fun k => ?_)
      · refine pars_l1 ns (kids ns) out2 j res _ (by simp only [List.length_cons]; omega) ?_
        rw [w64 (by omega) (by omega)]
        exact he
      · simp only [spec_l4Parents.j1, stackOf_cons, leftsOf_cons, hl00]
        rw [if_pos (by rw [stackOf_length]; omega), if_pos (by omega), if_pos (by omega), if_pos (by rw [leftsOf_length]; omega), hr, hkid]
    cases F with
    | nil =>
      have hj00 : j = 0 := by rcases hnil rfl with h | h <;> omega
      subst hj00
      obtain ⟨res, he, hrl, hre, hrp⟩ := key (out.set 0 (-1)) [] (by simp [ho]) ⟨by omega, Nat.zero_le _, E_zero _ _, rfl⟩ (by simp)
      refine ⟨res, ?_, hrl, fun j' h => by omega, fun j' h1 h2 => ?_⟩
      · refine he.step fun k => ?_
        simp only [spec_l4Parents.l0]
        rw [if_pos (by omega), if_pos (by omega), if_pos (by omega)]
        simp [stackOf, ints]
      · rcases Nat.eq_zero_or_pos j' with e | e
        · subst e
          refine ⟨fun _ => ?_, fun h => by omega⟩
          rw [hre 0 (by omega)]
          exact hset out (-1) ho
        · exact hrp j' (by omega) h2
    | cons f r =>
      obtain ⟨P, i⟩ := f
      have hpos := hhead _ _ rfl
      obtain ⟨hO2, hK⟩ := hO.push hpos (by omega)
      have hjp : 0 < j := by rcases Nat.eq_zero_or_pos j with e | e; exact absurd (hj0 e) (by simp); exact e
      simp only [List.length_cons] at hlF
      obtain ⟨res, he, hrl, hre, hrp⟩ := key ((out.set j (-1)).set j (P : Int)) ((P, i + 1) :: r) (by simp [ho]) hO2 (by simp only [List.length_cons]; omega)
      refine ⟨res, ?_, hrl, fun j' h => ?_, fun j' h1 h2 => ?_⟩
      · refine he.step fun k => ?_
        have h0 : ((leftsOf (kids ns) r ++ [(leftOf (kids ns) (P, i) : Int)]).length : Int) = r.length + 1 := by simp [leftsOf_length]
        have h0' : ((stackOf r ++ [(P : Int)]).length : Int) = r.length + 1 := by simp [stackOf_length]
        have h1 : wrap64 (((r.length : Nat) : Int) + 1 - 1) = (r.length : Int) := by
          rw [w64 (by omega) (by omega)]
          omega
        have hrd : rd (stackOf r ++ [(P : Int)]) (r.length : Int) = P := by rw [← stackOf_length r]; exact rd_last _ _
        have hrd2 : rd (leftsOf (kids ns) r ++ [(leftOf (kids ns) (P, i) : Int)]) (r.length : Int) = leftOf (kids ns) (P, i) := by rw [← leftsOf_length (kids ns) r]; exact rd_last _ _
        have hle : leftOf (kids ns) (P, i) ≤ 4000 := by
          have hP : P < ns.length := by have := hK.lt; omega
          simp only [leftOf, kids_at hP]
          have := hm _ (List.getElem_mem hP)
          unfold kid
          omega
        have hw2 : wrap64 ((leftOf (kids ns) (P, i) : Int) - 1) = (leftOf (kids ns) (P, i + 1) : Int) := by
          rw [w64 (by omega) (by omega)]
          simp only [leftOf] at *
          omega
        simp only [spec_l4Parents.l0, stackOf_cons, leftsOf_cons, h0, h0', h1]
        rw [if_pos (by omega), if_pos (by omega), if_pos (by omega)]
        simp only [Option.bind_some]
        rw [if_pos (by omega), if_pos (by omega), if_pos (by omega), if_pos (by omega), if_pos (by omega), hrd, hrd2, hw2, Int.toNat_natCast, Int.toNat_natCast]
        have : (leftsOf (kids ns) r ++ [(leftOf (kids ns) (P, i) : Int)]).set r.length (leftOf (kids ns) (P, i + 1) : Int) = leftsOf (kids ns) r ++ [(leftOf (kids ns) (P, i + 1) : Int)] := by
          rw [← leftsOf_length (kids ns) r]; exact set_last _ _ _
        rw [this]
      · rw [hre j' (by omega), hsetne _ _ _ (by omega), hsetne _ _ _ (by omega)]
      · rcases Nat.eq_or_lt_of_le h1 with e | e
        · subst e
          refine ⟨fun h => by omega, fun _ => ⟨P, i, hK, ?_⟩⟩
          rw [hre j (by omega)]
          exact hset _ _ (by simp [ho])
        · exact hrp j' e h2
theorem pars_f (ns : List Node) (hb : ns.length ≤ 4000) (hk : ∀ n ∈ ns, 0 ≤ n.f5) (hm : ∀ n ∈ ns, n.f5 ≤ ns.length) (hw : E (kids ns) 0 1 = some ns.length) :
    ∃ res : List Int, Ev (fun k => spec_l4Parents.f k ns) res ∧ res.length = ns.length ∧ ParsFrom (kids ns) res 0 ns.length := by
  obtain ⟨res, he, hrl, _, hrp⟩ := pars_l0 ns hb hk hm hw ns.length 0 (List.replicate ns.length 0) [] (by omega) (by simp) trivial (fun _ _ h => by cases h) (fun _ => .inl rfl) (fun _ => rfl) (by simp)
  refine ⟨res, he.same fun k => ?_, hrl, hrp⟩
  simp only [spec_l4Parents.f]
  rw [if_pos (by omega), Int.toNat_natCast, if_pos (by omega)]
  rfl
end Go.Proofs.Ytcjaakbmabhmdaa.FireSpec
