/- What the reference's test of a tree comes to. -/
import Derived.Test.YtcjaakbmabhmdaaPkTree
import Derived.Test.YtcjaakbmabhmdaaPkHA
import Derived.Test.YtcjaakbmabhmdaaPkPar
import Derived.Test.YtcjaakbmabhmdaaPkTo2
import Derived.Test.YtcjaakbmabhmdaaPkEqB
import Derived.Test.YtcjaakbmabhmdaaPkMk
import Derived.Test.YtcjaakbmabhmdaaX10
import Derived.Test.YtcjaakbmabhmdaaTr
import Derived.Test.YtcjaakbmabhmdaaFireSpec
set_option linter.unusedVariables false
namespace Go.Proofs.Ytcjaakbmabhmdaa.FireSpec
open Go.RowKit Go.Proofs.YtcjaakbmabhmdaaW.PrintWords Go.Proofs.Ytcjaakbmabhmdaa.PFnExactFire Go.Proofs.Ytcjaakbmabhmdaa.Tr

/-- With enough rounds. -/
def Ev {α : Type} (g : Nat → Option α) (r : α) : Prop := ∃ K, ∀ k, K ≤ k → g k = some r
section
variable {α β : Type} {f g : Nat → Option α} {r : α}
theorem Ev.step (h : Ev g r) (hs : ∀ k, f (k + 1) = g k) : Ev f r := by
  obtain ⟨K, hK⟩ := h
  exact ⟨K + 1, fun k hk => by obtain ⟨m, rfl⟩ : ∃ m, k = m + 1 := ⟨k - 1, by omega⟩; rw [hs]; exact hK m (by omega)⟩
theorem Ev.same (h : Ev g r) (hs : ∀ k, f k = g k) : Ev f r := by
  obtain ⟨K, hK⟩ := h
  exact ⟨K, fun k hk => by rw [hs]; exact hK k hk⟩
theorem Ev.done (hs : ∀ k, f (k + 1) = some r) : Ev f r := ⟨1, fun k hk => by obtain ⟨m, rfl⟩ : ∃ m, k = m + 1 := ⟨k - 1, by omega⟩; exact hs m⟩
theorem Ev.const (r : α) : Ev (fun _ => some r) r := ⟨0, fun _ _ => rfl⟩
theorem Ev.of_lt (N : Nat) (h : ∀ k, N < k → g k = some r) : Ev g r := ⟨N + 1, fun k hk => h k (by omega)⟩
theorem Ev.bind {x : Nat → Option β} {y : β} {c : Nat → β → Option α} (hx : Ev x y) (hc : Ev (fun k => c k y) r) : Ev (fun k => (x k).bind (c k)) r := by
  obtain ⟨K, hK⟩ := hx
  obtain ⟨L, hL⟩ := hc
  exact ⟨max K L, fun k hk => by
    simp only [hK k (by omega), Option.bind_some]
    exact hL k (by omega)⟩
theorem Ev.both {x : Nat → Option β} {y : β} (hf : Ev f r) (hx : Ev x y) : ∃ k, f k = some r ∧ x k = some y := by
  obtain ⟨K, hK⟩ := hf
  obtain ⟨L, hL⟩ := hx
  exact ⟨max K L, hK _ (by omega), hL _ (by omega)⟩
theorem Ev.some (h : Ev g r) : ∃ k, g k = some r := by obtain ⟨K, hK⟩ := h; exact ⟨K, hK K (Nat.le_refl _)⟩
end

/-! ### l3Skip -/
def kid (n : Node) : Nat := n.f5.toNat
def kids (ns : List Node) : List Nat := ns.map kid
def skipL (L : Int) : List Node → Nat → Int → Int
  | _, 0, p => p
  | [], _ + 1, _ => -1
  | n :: ns, m + 1, p => if n.f5 < 0 then -1 else if n.f5 > L then -1 else skipL L ns (kid n + m) (p + 1)
theorem skipL_zero (L : Int) (ns : List Node) (p : Int) : skipL L ns 0 p = p := by unfold skipL; rfl
theorem skip_l0 (ns : List Node) (hn : ns.length < 2 ^ 30) : ∀ (d i m : Nat), i + d = ns.length → m ≤ 1 + i * ns.length →
    Ev (fun k => spec_l3Skip.l0 k ns i m) (skipL ns.length (ns.drop i) m i) := by
  intro d
  induction d with
  | zero =>
    intro i m h hm
    cases m with
    | zero => exact Ev.done fun k => by simp only [spec_l3Skip.l0, skipL_zero]; rw [if_neg (by omega)]
    | succ m =>
      rw [List.drop_eq_nil_of_le (by omega)]
      exact Ev.done fun k => by simp only [spec_l3Skip.l0, skipL]; rw [if_pos (by omega), if_pos (by omega)]
  | succ d ih =>
    intro i m h hm
    have hi : i < ns.length := by omega
    have hr : rd_T52 ns (i : Int) = ns[i] := by simp [rd_T52, hi]
    cases m with
    | zero => exact Ev.done fun k => by simp only [spec_l3Skip.l0, skipL_zero]; rw [if_neg (by omega)]
    | succ m =>
      rw [List.drop_eq_getElem_cons hi]
      simp only [skipL]
      by_cases c1 : ns[i].f5 < 0
      · exact Ev.done fun k => by simp only [spec_l3Skip.l0]; rw [if_pos (by omega), if_neg (by omega), if_pos (by omega), if_pos (by omega), hr, if_pos c1, if_pos c1]
      by_cases c2 : ns[i].f5 > ns.length
      · exact Ev.done fun k => by simp only [spec_l3Skip.l0]; rw [if_pos (by omega), if_neg (by omega), if_pos (by omega), if_pos (by omega), hr, if_neg c1, if_pos c2, if_neg c1, if_pos c2]
      rw [if_neg c1, if_neg c2]
      have hkid : ((kid ns[i] : Nat) : Int) = ns[i].f5 := by unfold kid; omega
      have hsq : i * ns.length ≤ 2 ^ 30 * 2 ^ 30 := Nat.mul_le_mul (by omega) (by omega)
      have hmul : (i + 1) * ns.length = i * ns.length + ns.length := by rw [Nat.add_mul, Nat.one_mul]
      have := ih (i + 1) (kid ns[i] + m) (by omega) (by omega)
      refine (this.step fun k => ?_)
      simp only [spec_l3Skip.l0]
      rw [if_pos (by omega), if_neg (by omega), if_pos (by omega), if_pos (by omega), hr, if_neg c1, if_neg c2, w64 (n := (i : Int) + 1) (by omega) (by omega), w64 (n := ns[i].f5 - 1) (by omega) (by omega), w64 (by omega) (by omega)]
      congr 1
      omega
theorem skip_f (ns : List Node) (hn : ns.length < 2 ^ 30) (i : Nat) (hi : i ≤ ns.length) : Ev (fun k => spec_l3Skip.f k ns i) (skipL ns.length (ns.drop i) 1 i) := by
  obtain ⟨d, hd⟩ : ∃ d, i + d = ns.length := ⟨ns.length - i, by omega⟩
  exact skip_l0 ns hn d i 1 hd (by omega)
/-- No number of kids is below 0. -/
def kidsOk (ns : List Node) : Prop := ∀ n ∈ ns, 0 ≤ n.f5
theorem skip_whole (L : Nat) : ∀ (ns : List Node) (m p : Nat), ns.length ≤ L → (skipL L ns m p = p + ns.length ↔ kidsOk ns ∧ fin (kids ns) m p = some (p + ns.length))
  | ns, 0, p, h => by
    rw [skipL_zero, fin_zero]
    constructor
    · intro e
      have : ns = [] := List.eq_nil_of_length_eq_zero (by omega)
      subst this
      exact ⟨fun _ h => by simp at h, rfl⟩
    · rintro ⟨_, e⟩
      injection e with e
      omega
  | [], m + 1, p, h => by simp [skipL, kids, fin]
  | n :: ns, m + 1, p, h => by
    simp only [skipL, kids, List.map_cons, fin, List.length_cons] at h ⊢
    by_cases c1 : n.f5 < 0
    · rw [if_pos c1]
      constructor
      · intro e; omega
      · rintro ⟨hk, _⟩
        have := hk n List.mem_cons_self
        omega
    by_cases c2 : n.f5 > (L : Int)
    · rw [if_neg c1, if_pos c2]
      constructor
      · intro e; omega
      · rintro ⟨_, hf⟩
        have := fin_bounds _ _ _ _ hf
        simp only [List.length_map] at this
        unfold kid at this
        omega
    rw [if_neg c1, if_neg c2]
    have ih := skip_whole L ns (kid n + m) (p + 1) (by omega)
    rw [show (((p + 1 : Nat)) : Int) = (p : Int) + 1 from by omega] at ih
    rw [show (p : Int) + ((ns.length + 1 : Nat) : Int) = (p : Int) + 1 + ns.length from by omega, ih, show p + (ns.length + 1) = p + 1 + ns.length from by omega]
    constructor
    · rintro ⟨hk, hf⟩
      refine ⟨fun x hx => ?_, hf⟩
      rcases List.mem_cons.1 hx with e | hx
      · rw [e]; omega
      · exact hk x hx
    · rintro ⟨hk, hf⟩
      exact ⟨fun x hx => hk x (List.mem_cons_of_mem _ hx), hf⟩

/-! ### TreeOk -/
def ints (left : List Nat) : List Int := (left.map (fun k : Nat => (k : Int))).reverse
theorem ints_length (l : List Nat) : (ints l).length = l.length := by simp [ints]
theorem ints_cons (k : Nat) (l : List Nat) : ints (k :: l) = ints l ++ [(k : Int)] := by simp [ints]
theorem set_last {α : Type} (l : List α) (a b : α) : (l ++ [a]).set l.length b = l ++ [b] := by
  rw [List.set_append_right _ _ (Nat.le_refl _)]; simp
theorem rd_last (l : List Int) (a : Int) : rd (l ++ [a]) (l.length : Int) = a := by simp [rd]
def nds (ns : List Node) : List Nd := ns.map (fun n => ⟨n.f0, kid n, nodeOk n⟩)
def treeOk (ns : List Node) : Bool :=
  decide (1 ≤ ns.length ∧ ns.length ≤ 4000 ∧ (∀ n ∈ ns, 0 ≤ n.f5) ∧ fin (kids ns) 1 0 = some ns.length) && sloop true [] [] (nds ns)

theorem pop_l2 (ns : List Node) (n i : Int) (r : Bool) : ∀ left : List Nat, left.length ≤ 4001 →
    Ev (fun k => spec_TreeOk.l0 k n (ints (dropz left)) (wrap64 (i + 1)) ns) r → Ev (fun k => spec_TreeOk.l2 k n (ints left) i ns) r
  | [], _, h => h.step fun k => by simp only [spec_TreeOk.l2]; rw [if_neg (by simp [ints])]; rfl
  | a :: left, hl, h => by
    simp only [List.length_cons] at hl
    have h0 : ((ints left ++ [(a : Int)]).length : Int) = (ints left).length + 1 := by simp
    have h2 : (ints left).length = left.length := ints_length left
    have h1 : wrap64 ((ints left).length + 1 - 1) = ((ints left).length : Int) := by
      rw [w64 (by omega) (by omega)]
      omega
    by_cases ha : a = 0
    · subst ha
      refine (pop_l2 ns n i r left (by omega) (by simpa [dropz] using h)).step fun k => ?_
      simp only [spec_TreeOk.l2, ints_cons, h0, h1]
      rw [if_pos (by omega), if_pos (by omega), if_pos (by omega), rd_last, if_pos (by rfl), if_pos (by omega)]
      simp
    · refine h.step fun k => ?_
      simp only [spec_TreeOk.l2, ints_cons, h0, h1]
      rw [if_pos (by omega), if_pos (by omega), if_pos (by omega), rd_last, if_neg (by omega)]
      simp [dropz, ha, ints_cons]
theorem j4_l2 (ns : List Node) (n : Int) (i : Nat) (hi : i < ns.length) (hk : 0 ≤ ns[i].f5) (left : List Nat) (hl : left.length ≤ 4000) (r : Bool)
    (h : Ev (fun k => spec_TreeOk.l2 k n (ints (kid ns[i] :: left)) i ns) r) : Ev (fun k => spec_TreeOk.j4 k n (ints left) i ns) r := by
  refine h.step fun k => ?_
  have hr : rd_T52 ns (i : Int) = ns[i] := by simp [rd_T52, hi]
  have hkid : ((kid ns[i] : Nat) : Int) = ns[i].f5 := by unfold kid; omega
  simp only [spec_TreeOk.j4]
  rw [if_pos (by omega), if_pos (by omega), if_pos (by rw [ints_length]; omega), hr, ints_cons, hkid]
theorem dup_l1 (ns : List Node) (n : Int) (i : Nat) (hi : i < ns.length) (hb : ns.length ≤ 4000) (hk : 0 ≤ ns[i].f5) (left : List Nat) (hd : dropz left = left) (hl : left.length ≤ 4000) (hle : ∀ a ∈ left, a ≤ 4000) (r : Bool)
    (h : Ev (fun k => spec_TreeOk.l2 k n (ints (kid ns[i] :: dec left)) i ns) r) : ∀ (d j : Nat), j + d = i →
    Ev (fun k => spec_TreeOk.l1 k n (ints left) i j ns) (if ((ns.take i).drop j).any (fun x => decide (x.f0 = ns[i].f0)) then false else r) := by
  have hr : rd_T52 ns (i : Int) = ns[i] := by simp [rd_T52, hi]
  intro d
  induction d with
  | zero =>
    intro j hj
    rw [List.drop_eq_nil_of_le (by simp only [List.length_take]; omega)]
    simp only [List.any_nil, Bool.false_eq_true, if_false]
    cases left with
    | nil =>
      refine (j4_l2 ns n i hi hk [] (by simp) r h).step fun k => ?_
      simp only [spec_TreeOk.l1]
      rw [if_neg (by omega), if_neg (by simp [ints])]
    | cons a left =>
      have ha := dropz_head _ _ _ hd
      simp only [List.length_cons] at hl
      refine (j4_l2 ns n i hi hk (dec (a :: left)) (by simp [dec]; omega) r h).step fun k => ?_
      have h0 : ((ints left ++ [(a : Int)]).length : Int) = (ints left).length + 1 := by simp
      have h2 : (ints left).length = left.length := ints_length left
      have h1 : wrap64 ((ints left).length + 1 - 1) = ((ints left).length : Int) := by
        rw [w64 (by omega) (by omega)]
        omega
      simp only [spec_TreeOk.l1, ints_cons, h0, h1, dec]
      rw [if_neg (by omega), if_pos (by omega), if_pos (by omega), if_pos (by omega), rd_last, Int.toNat_natCast, set_last]
      have ha2 := hle a List.mem_cons_self
      rw [show wrap64 ((a : Int) - 1) = ((a - 1 : Nat) : Int) from by rw [w64 (by omega) (by omega)]; omega]
  | succ d ih =>
    intro j hj
    have hj' : j < ns.length := by omega
    have hrj : rd_T52 ns (j : Int) = ns[j] := by simp [rd_T52, hj']
    have hdr : (ns.take i).drop j = ns[j] :: (ns.take i).drop (j + 1) := by
      rw [List.drop_eq_getElem_cons (by simp only [List.length_take]; omega), List.getElem_take]
    rw [hdr, List.any_cons]
    by_cases e : ns[j].f0 = ns[i].f0
    · simp only [e, decide_true, Bool.true_or, if_true]
      exact Ev.done fun k => by
        simp only [spec_TreeOk.l1]
        rw [if_pos (by omega), if_pos (by omega), if_pos (by omega), if_pos (by omega), if_pos (by omega), hr, hrj, if_pos e]
    · simp only [e, decide_false, Bool.false_or]
      refine (ih (j + 1) (by omega)).step fun k => ?_
      simp only [spec_TreeOk.l1]
      rw [if_pos (by omega), if_pos (by omega), if_pos (by omega), if_pos (by omega), if_pos (by omega), hr, hrj, if_neg e, w64 (by omega) (by omega)]
      rfl
theorem loop_l0 (ns : List Node) (hb : ns.length ≤ 4000) (hk : ∀ n ∈ ns, 0 ≤ n.f5) (ha : ∀ n ∈ ns, n.f3.length < 2 ^ 62) (hm : ∀ n ∈ ns, n.f5 ≤ ns.length) : ∀ (d i : Nat) (left : List Nat), i + d = ns.length → left.length ≤ i → dropz left = left → (∀ a ∈ left, a ≤ 4000) →
    Ev (fun k => spec_TreeOk.l0 k ns.length (ints left) i ns) (sloop (i == 0) ((ns.take i).map (·.f0)) left (nds (ns.drop i))) := by
  intro d
  induction d with
  | zero =>
    intro i left h hl hd hle
    rw [List.drop_eq_nil_of_le (by omega)]
    exact Ev.done fun k => by simp only [spec_TreeOk.l0, nds, List.map_nil, sloop]; rw [if_neg (by omega)]
  | succ d ih =>
    intro i left h hl hd hle
    have hi : i < ns.length := by omega
    have hr : rd_T52 ns (i : Int) = ns[i] := by simp [rd_T52, hi]
    have hmem : ns[i] ∈ ns := List.getElem_mem hi
    rw [List.drop_eq_getElem_cons hi]
    simp only [nds, List.map_cons, sloop]
    have hno := Ev.of_lt _ (nodeOk_f ns[i] (i == 0) (ha _ hmem))
    have hz : (((i : Nat) : Int) == 0) = (i == 0) := by rw [Bool.eq_iff_iff]; simp
    have hstart : Ev (fun k => (spec_l3NodeOk.f k ns[i].f0 ns[i].f1 ns[i].f2 ns[i].f3 ns[i].f4 ns[i].f5 (i == 0)).bind fun t => if t = true then spec_TreeOk.j2 k ns.length (ints left) i (decide (((ints left).length : Int) > 400)) ns else spec_TreeOk.j2 k ns.length (ints left) i true ns)
        (if !nodeOk ns[i] (i == 0) || decide (400 < left.length) || ((ns.take i).map (·.f0)).contains ns[i].f0 then false else
          sloop false ((ns.take i).map (·.f0) ++ [ns[i].f0]) (dropz (kid ns[i] :: dec left)) ((ns.drop (i + 1)).map fun n => ⟨n.f0, kid n, nodeOk n⟩)) := by
      refine Ev.bind hno ?_
      cases hok : nodeOk ns[i] (i == 0) with
      | false => exact Ev.done fun k => by simp [spec_TreeOk.j2]
      | true =>
        simp only [if_true, Bool.not_true, Bool.false_or]
        by_cases hdeep : 400 < left.length
        · rw [decide_eq_true hdeep, Bool.true_or, if_pos rfl]
          exact Ev.done fun k => by simp only [spec_TreeOk.j2]; rw [if_pos (by rw [decide_eq_true_eq, ints_length]; omega)]
        · have hcon : ((ns.take i).map (·.f0)).contains ns[i].f0 = ((ns.take i).drop 0).any (fun x => decide (x.f0 = ns[i].f0)) := by
            rw [List.drop_zero, Bool.eq_iff_iff, List.contains_iff_mem, List.any_eq_true]
            constructor
            · intro h
              obtain ⟨x, hx, e⟩ := List.mem_map.1 h
              exact ⟨x, hx, decide_eq_true e⟩
            · rintro ⟨x, hx, e⟩
              exact List.mem_map.2 ⟨x, hx, of_decide_eq_true e⟩
          rw [hcon, decide_eq_false hdeep, Bool.false_or]
          have hlen : ((ints left).length : Int) = left.length := by rw [ints_length]
          refine Ev.step (dup_l1 ns ns.length i hi hb (hk _ hmem) left hd (by omega) hle _ ?_ i 0 (by omega)) (fun k => by simp only [spec_TreeOk.j2]; rw [if_neg (by rw [decide_eq_true_eq, hlen]; omega)]; rfl)
          refine pop_l2 ns ns.length i _ (kid ns[i] :: dec left) ?_ ?_
          · have : (dec left).length = left.length := by cases left <;> simp [dec]
            simp only [List.length_cons, this]; omega
          · have hlt : (dropz (kid ns[i] :: dec left)).length ≤ i + 1 := by
              have h1 : ∀ l : List Nat, (dropz l).length ≤ l.length := by
                intro l
                induction l with
                | nil => simp [dropz]
                | cons a l ih => unfold dropz; split <;> simp <;> omega
              have h2 : (dec left).length = left.length := by cases left <;> simp [dec]
              have := h1 (kid ns[i] :: dec left)
              simp only [List.length_cons, h2] at this
              omega
            have hsub : ∀ l : List Nat, ∀ a ∈ dropz l, a ∈ l := by
              intro l
              induction l with
              | nil => simp [dropz]
              | cons b l ih =>
                intro a hm
                unfold dropz at hm
                split at hm
                · exact List.mem_cons_of_mem _ (ih a hm)
                · exact hm
            have := ih (i + 1) (dropz (kid ns[i] :: dec left)) (by omega) hlt (dropz_idem _) (by
              intro a hm'
              rcases List.mem_cons.1 (hsub _ _ hm') with e | e
              · have := hm _ hmem; unfold kid at e; omega
              · cases left with
                | nil => simp [dec] at e
                | cons b l =>
                  simp only [dec, List.mem_cons] at e
                  rcases e with e | e
                  · have := hle b List.mem_cons_self; omega
                  · exact hle a (List.mem_cons_of_mem _ e))
            rw [List.take_succ_eq_append_getElem hi, List.map_append] at this
            rw [w64 (by omega) (by omega)]
            exact this
    refine hstart.step fun k => ?_
    simp only [spec_TreeOk.l0]
    rw [if_pos (by omega), if_pos (by omega), if_pos (by omega), hr, hz]
theorem treeOk_f (ns : List Node) (ha : ∀ n ∈ ns, n.f3.length < 2 ^ 62) : Ev (fun k => spec_TreeOk.f k ns) (treeOk ns) := by
  have hout : ∀ b : Bool, b = true → Ev (fun k => spec_TreeOk.j0 k ns.length b ns) false := fun b hb => Ev.done fun k => by simp only [spec_TreeOk.j0]; rw [if_pos hb]
  by_cases h1 : ns.length < 1
  · have : treeOk ns = false := by unfold treeOk; rw [decide_eq_false (by omega)]; rfl
    rw [this]
    exact (hout true rfl).same fun k => by simp only [spec_TreeOk.f]; rw [if_pos (by omega)]
  by_cases h2 : 4000 < ns.length
  · have : treeOk ns = false := by unfold treeOk; rw [decide_eq_false (by omega)]; rfl
    rw [this]
    exact (hout true rfl).same fun k => by simp only [spec_TreeOk.f]; rw [if_neg (by omega), if_pos (by omega)]
  have hskip := skip_f ns (by omega) 0 (by omega)
  have hwhole := skip_whole ns.length ns 1 0 (Nat.le_refl _)
  simp only [List.drop_zero] at hskip
  rw [show ((0 : Nat) : Int) + ns.length = ns.length from by omega, show 0 + ns.length = ns.length from by omega] at hwhole
  have hmain : Ev (fun k => (spec_l3Skip.f k ns 0).bind fun t => spec_TreeOk.j0 k ns.length (t != (ns.length : Int)) ns) (treeOk ns) := by
    refine Ev.bind hskip ?_
    by_cases hw : skipL ns.length ns 1 0 = ns.length
    · obtain ⟨hk, hf⟩ := hwhole.1 hw
      have hm : ∀ n ∈ ns, n.f5 ≤ ns.length := by
        have key : ∀ (l : List Node) (m p e : Nat), fin (kids l) m p = some e → e = p + l.length → ∀ n ∈ l, kid n ≤ l.length := by
          intro l
          induction l with
          | nil => intro m p e h he n hn; simp at hn
          | cons a l ih =>
            intro m p e h he n hn
            cases m with
            | zero => rw [fin_zero] at h; injection h with h; simp at he; omega
            | succ m =>
              simp only [kids, List.map_cons, fin] at h
              have hb := fin_bounds _ _ _ _ h
              simp only [List.length_map, List.length_cons] at hb he ⊢
              rcases List.mem_cons.1 hn with e1 | hn
              · rw [e1]; omega
              · have := ih _ _ _ h (by omega) n hn; omega
        intro n hn
        have := key ns 1 0 ns.length hf (by omega) n hn
        have := hk n hn
        unfold kid at *
        omega
      have : treeOk ns = sloop true [] [] (nds ns) := by unfold treeOk; rw [decide_eq_true ⟨by omega, by omega, hk, hf⟩, Bool.true_and]
      rw [this]
      have hl := loop_l0 ns (by omega) hk ha hm ns.length 0 [] (by omega) (by simp) rfl (by simp)
      exact hl.step fun k => by simp only [spec_TreeOk.j0]; rw [if_neg (by simpa using hw)]; rfl
    · have : treeOk ns = false := by unfold treeOk; rw [decide_eq_false (fun h => hw (hwhole.2 ⟨h.2.2.1, h.2.2.2⟩))]; rfl
      rw [this]
      exact hout _ (by simpa using hw)
  exact hmain.same fun k => by simp only [spec_TreeOk.f]; rw [if_neg (by omega), if_neg (by omega)]
end Go.Proofs.Ytcjaakbmabhmdaa.FireSpec
