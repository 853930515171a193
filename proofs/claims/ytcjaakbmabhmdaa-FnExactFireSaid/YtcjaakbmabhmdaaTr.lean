/- Trees laid out in order: where so many of them end, which node is which kid of which, and when a list of nodes is a tree: plain lists and numbers. -/
namespace Go.Proofs.Ytcjaakbmabhmdaa.Tr

/-- Where m trees that begin at p end; ks: how many kids each node has, from p on. -/
def fin : List Nat → Nat → Nat → Option Nat
  | _, 0, p => some p
  | [], _ + 1, _ => none
  | k :: ks, m + 1, p => fin ks (k + m) (p + 1)
def E (ks : List Nat) (p m : Nat) : Option Nat := fin (ks.drop p) m p
/-- j is kid number i of P. -/
def Kid (ks : List Nat) (P i j : Nat) : Prop := P < ks.length ∧ i < ks.getD P 0 ∧ E ks (P + 1) i = some j

theorem fin_zero (ks : List Nat) (p : Nat) : fin ks 0 p = some p := by unfold fin; rfl
theorem fin_bounds : ∀ (ks : List Nat) (m p e : Nat), fin ks m p = some e → p ≤ e ∧ e ≤ p + ks.length ∧ m ≤ ks.length ∧ (0 < m → p < e)
  | ks, 0, p, e, h => by
    rw [fin_zero] at h
    injection h with h
    omega
  | [], m + 1, p, e, h => by simp [fin] at h
  | k :: ks, m + 1, p, e, h => by
    simp only [fin] at h
    have := fin_bounds ks (k + m) (p + 1) e h
    simp only [List.length_cons]
    omega
theorem fin_add : ∀ (ks : List Nat) (a b p : Nat), fin ks (a + b) p = (fin ks a p).bind (fun q => fin (ks.drop (q - p)) b q)
  | ks, 0, b, p => by simp [fin_zero]
  | [], a + 1, b, p => by
    rw [show a + 1 + b = (a + b) + 1 from by omega]
    simp [fin]
  | k :: ks, a + 1, b, p => by
    rw [show a + 1 + b = (a + b) + 1 from by omega]
    simp only [fin]
    rw [show k + (a + b) = (k + a) + b from by omega, fin_add ks (k + a) b (p + 1)]
    cases h : fin ks (k + a) (p + 1) with
    | none => rfl
    | some q =>
      have := fin_bounds _ _ _ _ h
      simp only [Option.bind_some]
      rw [show q - p = (q - (p + 1)) + 1 from by omega, List.drop_succ_cons]

theorem E_zero (ks : List Nat) (p : Nat) : E ks p 0 = some p := fin_zero _ _
theorem E_bounds {ks : List Nat} {p m e : Nat} (h : E ks p m = some e) : p ≤ e ∧ (0 < m → p < e ∧ e ≤ ks.length) := by
  have := fin_bounds _ _ _ _ h
  simp only [List.length_drop] at this
  omega
theorem E_add (ks : List Nat) (p a b : Nat) : E ks p (a + b) = (E ks p a).bind (fun q => E ks q b) := by
  unfold E
  rw [fin_add]
  cases h : fin (ks.drop p) a p with
  | none => rfl
  | some q =>
    have := fin_bounds _ _ _ _ h
    simp only [Option.bind_some, List.drop_drop]
    rw [show p + (q - p) = q from by omega]
theorem E_step {ks : List Nat} {p m : Nat} (h : p < ks.length) : E ks p (m + 1) = E ks (p + 1) (ks.getD p 0 + m) := by
  unfold E
  rw [List.drop_eq_getElem_cons h]
  simp only [fin]
  rw [List.getD_eq_getElem?_getD, List.getElem?_eq_getElem h, Option.getD_some]
theorem E_out {ks : List Nat} {p m : Nat} (h : ks.length ≤ p) : E ks p (m + 1) = none := by
  unfold E
  rw [List.drop_eq_nil_of_le h]
  rfl
theorem E_one {ks : List Nat} {p e : Nat} (h : E ks p 1 = some e) : p < ks.length ∧ E ks (p + 1) (ks.getD p 0) = some e := by
  have hp : p < ks.length := by
    rcases Nat.lt_or_ge p ks.length with hp | hp
    · exact hp
    · rw [E_out (m := 0) hp] at h; cases h
  rw [E_step (m := 0) hp] at h
  exact ⟨hp, h⟩
/-- A part of so many trees. -/
theorem E_part {ks : List Nat} {p a b e : Nat} (h : E ks p b = some e) (hab : a ≤ b) : ∃ q, E ks p a = some q ∧ E ks q (b - a) = some e ∧ q ≤ e := by
  rw [show b = a + (b - a) from by omega, E_add] at h
  cases hq : E ks p a with
  | none => rw [hq] at h; cases h
  | some q =>
    rw [hq] at h
    exact ⟨q, rfl, h, (E_bounds h).1⟩
theorem E_lt {ks : List Nat} {p a b q e : Nat} (hq : E ks p a = some q) (h : E ks p b = some e) (hab : a < b) : q < e := by
  obtain ⟨q', h1, h2, _⟩ := E_part h (Nat.le_of_lt hab)
  rw [hq] at h1
  injection h1 with h1
  subst h1
  exact ((E_bounds h2).2 (by omega)).1
/-- What begins inside ends inside. -/
theorem E_inside {ks : List Nat} : ∀ (d p m e x : Nat), x - p = d → E ks p m = some e → p ≤ x → x < e → ∃ e', E ks x 1 = some e' ∧ e' ≤ e := by
  intro d
  induction d with
  | zero =>
    intro p m e x hd h h1 h2
    have : x = p := by omega
    subst this
    have hm : 1 ≤ m := by
      rcases Nat.eq_zero_or_pos m with h0 | h0
      · subst h0; rw [E_zero] at h; injection h with h; omega
      · exact h0
    obtain ⟨q, hq, _, hle⟩ := E_part h hm
    exact ⟨q, hq, hle⟩
  | succ d ih =>
    intro p m e x hd h h1 h2
    have hm : 1 ≤ m := by
      rcases Nat.eq_zero_or_pos m with h0 | h0
      · subst h0; rw [E_zero] at h; injection h with h; omega
      · exact h0
    have hp : p < ks.length := by have := (E_bounds h).2 hm; omega
    obtain ⟨m', rfl⟩ : ∃ m', m = m' + 1 := ⟨m - 1, by omega⟩
    rw [E_step hp] at h
    exact ih (p + 1) _ e x (by omega) h (by omega) h2
theorem Kid.lt {ks : List Nat} {P i j : Nat} (h : Kid ks P i j) : P < j := by
  have := (E_bounds h.2.2).1
  omega
theorem Kid.end_gt {ks : List Nat} {P i j e : Nat} (h : Kid ks P i j) (he : E ks P 1 = some e) : j < e := E_lt h.2.2 (E_one he).2 h.2.1
theorem Kid.unique {ks : List Nat} {P P' i i' j : Nat} (h : Kid ks P i j) (h' : Kid ks P' i' j) : P = P' ∧ i = i' := by
  have key : ∀ {P P' i i' : Nat}, Kid ks P i j → Kid ks P' i' j → ¬ P < P' := by
    intro P P' i i' h h' hlt
    obtain ⟨e', he', hle⟩ := E_inside _ _ _ _ P' rfl h.2.2 (by omega) h'.lt
    have := h'.end_gt he'
    omega
  have hP : P = P' := by have := key h h'; have := key h' h; omega
  subst hP
  refine ⟨rfl, ?_⟩
  rcases Nat.lt_trichotomy i i' with hi | hi | hi
  · have := E_lt h.2.2 h'.2.2 hi; omega
  · exact hi
  · have := E_lt h'.2.2 h.2.2 hi; omega

/-! ### when a list of nodes is a tree: as the program asks, and as the document's reference asks -/
/-- A node as the test sees it: its Id, its kids, whether it is right by itself as the first (true) or another. -/
structure Nd where
  id : Int
  kids : Nat
  ok : Bool → Bool
def dropz : List Nat → List Nat
  | [] => []
  | k :: r => if k = 0 then dropz r else k :: r
def dec : List Nat → List Nat
  | [] => []
  | k :: r => (k - 1) :: r
/-- The program's loop; left: the top first. -/
def iloop : Bool → List Int → List Nat → List Nd → Bool
  | _, _, left, [] => left.all (fun k => k == 0)
  | first, seen, left, x :: xs =>
    if !x.ok first || seen.contains x.id then false
    else if (!first && (dropz left).isEmpty) || decide (400 < (dropz left).length) then false
    else iloop false (seen ++ [x.id]) (x.kids :: dec (dropz left)) xs
/-- The reference's loop. -/
def sloop : Bool → List Int → List Nat → List Nd → Bool
  | _, _, _, [] => true
  | first, seen, left, x :: xs =>
    if !x.ok first || decide (400 < left.length) || seen.contains x.id then false
    else sloop false (seen ++ [x.id]) (dropz (x.kids :: dec left)) xs
def sum (l : List Nat) : Nat := l.foldr (· + ·) 0
theorem dropz_sum : ∀ l : List Nat, sum (dropz l) = sum l
  | [] => rfl
  | k :: r => by
    unfold dropz
    split
    · rename_i h; rw [dropz_sum r]; simp [sum, h]
    · rfl
theorem dropz_idem : ∀ l : List Nat, dropz (dropz l) = dropz l
  | [] => rfl
  | k :: r => by
    by_cases h : k = 0
    · simp only [dropz, h, if_true]; exact dropz_idem r
    · simp [dropz, h]
theorem dropz_head : ∀ (l : List Nat) (k : Nat) (r : List Nat), dropz l = k :: r → 0 < k
  | [], _, _, h => by simp [dropz] at h
  | a :: l, k, r, h => by
    unfold dropz at h
    split at h
    · exact dropz_head l k r h
    · injection h with h1 h2; omega
theorem dropz_length : ∀ l : List Nat, (dropz l).length ≤ l.length
  | [] => Nat.le_refl _
  | k :: r => by
    unfold dropz
    split
    · have := dropz_length r; simp; omega
    · exact Nat.le_refl _
theorem dropz_mem : ∀ (l : List Nat) (a : Nat), a ∈ dropz l → a ∈ l
  | [], _, h => h
  | k :: r, a, h => by
    unfold dropz at h
    split at h
    · exact List.mem_cons_of_mem _ (dropz_mem r a h)
    · exact h
theorem all_zero : ∀ l : List Nat, l.all (fun k => k == 0) = decide (sum l = 0)
  | [] => rfl
  | k :: r => by
    rw [List.all_cons, all_zero r, Bool.eq_iff_iff]
    show _ ↔ decide (k + sum r = 0) = true
    simp only [Bool.and_eq_true, beq_iff_eq, decide_eq_true_eq]
    omega
theorem fin_shift : ∀ (ks : List Nat) (m p : Nat), fin ks m (p + 1) = (fin ks m p).map (· + 1)
  | ks, 0, p => by simp [fin_zero]
  | [], m + 1, p => rfl
  | k :: ks, m + 1, p => by simp only [fin]; exact fin_shift ks (k + m) (p + 1)
theorem iloop_sloop : ∀ (xs : List Nd) (seen : List Int) (left : List Nat),
    iloop false seen left xs = (sloop false seen (dropz left) xs && decide (fin (xs.map Nd.kids) (sum left) 0 = some xs.length))
  | [], seen, left => by
    simp only [iloop, sloop, all_zero, List.map_nil, List.length_nil, Bool.true_and]
    cases h : sum left with
    | zero => simp [fin]
    | succ m => simp [fin]
  | x :: xs, seen, left => by
    simp only [iloop, sloop]
    cases hd : dropz left with
    | nil =>
      have hs : sum left = 0 := by rw [← dropz_sum, hd]; rfl
      simp [hs, fin_zero]
    | cons k r =>
      have hk := dropz_head _ _ _ hd
      have hs : sum left = k + sum r := by rw [← dropz_sum, hd]; rfl
      by_cases h1 : x.ok false = true <;> by_cases h2 : x.id ∈ seen <;> simp [h1, h2]
      by_cases h4 : 400 < r.length + 1
      · simp [h4]
      have h4' : decide (400 < r.length + 1) = false := decide_eq_false h4
      rw [h4', iloop_sloop xs]
      simp only [Bool.not_false, Bool.true_and]
      congr 1
      obtain ⟨m, rfl⟩ : ∃ m, k = m + 1 := ⟨k - 1, by omega⟩
      rw [hs, show m + 1 + sum r = (m + sum r) + 1 from by omega]
      simp only [fin, Nat.zero_add, dec, Nat.add_sub_cancel, fin_shift, sum, List.foldr_cons]
      rw [show x.kids + (m + List.foldr (· + ·) 0 r) = x.kids + (m + List.foldr (· + ·) 0 r) from rfl]
      cases fin (xs.map Nd.kids) (x.kids + (m + List.foldr (· + ·) 0 r)) 0 <;> simp
end Go.Proofs.Ytcjaakbmabhmdaa.Tr
