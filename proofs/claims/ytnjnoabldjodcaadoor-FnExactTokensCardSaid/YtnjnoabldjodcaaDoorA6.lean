/- Part 6 of the proof: TokPlain, TokSpec, TokRef. -/
import Derived.Test.YtnjnoabldjodcaaDoorA4
import Derived.Test.YtnjnoabldjodcaaDoorA5
import Derived.Test.YtnjnoabldjodcaaDoorA1
set_option linter.unusedVariables false
set_option linter.unusedSimpArgs false
namespace Go.Proofs.YtnjnoabldjodcaaDoor.Tok
open Go.RowKit Go.Proofs.YtnjnoabldjodcaaDoorW.PrintWords Go.Proofs.YtnjnoabldjodcaaDoor.PFnExactTokens
theorem w64 {n : Int} (h0 : -9223372036854775808 ≤ n) (h1 : n < 9223372036854775808) : wrap64 n = n := by
  unfold wrap64
  omega
def Ev {α : Type} (g : Nat → Option α) (r : α) : Prop := ∃ K, ∀ k, K ≤ k → g k = some r
section
variable {α β : Type} {f g : Nat → Option α} {r : α}
theorem Ev.step (h : Ev g r) (hs : ∀ k, f (k + 1) = g k) : Ev f r := by
  obtain ⟨K, hK⟩ := h
  exact ⟨K + 1, fun k hk => by obtain ⟨m, rfl⟩ : ∃ m, k = m + 1 := ⟨k - 1, by omega⟩; rw [hs]; exact hK m (by omega)⟩
theorem Ev.same (h : Ev g r) (hs : ∀ k, f k = g k) : Ev f r := by
  obtain ⟨K, hK⟩ := h
  exact ⟨K, fun k hk => by rw [hs]; exact hK k hk⟩
theorem Ev.done (hs : ∀ k, f (k + 1) = some r) : Ev f r := ⟨1, fun k hk => by obtain ⟨m, rfl⟩ : ∃ m, k = m + 1 := ⟨k - 1, by omega⟩; exact hs m⟩
theorem Ev.const (r : α) : Ev (fun _ => some r) r := ⟨0, fun _ _ => rfl⟩
theorem Ev.bind {x : Nat → Option β} {y : β} {c : Nat → β → Option α} (hx : Ev x y) (hc : Ev (fun k => c k y) r) : Ev (fun k => (x k).bind (c k)) r := by
  obtain ⟨K, hK⟩ := hx
  obtain ⟨L, hL⟩ := hc
  exact ⟨max K L, fun k hk => by
    simp only [hK k (by omega), Option.bind_some]
    exact hL k (by omega)⟩
theorem Ev.both {x : Nat → Option β} {y : β} (hf : Ev f r) (hx : Ev x y) : ∃ k, f k = some r ∧ x k = some y := by
  obtain ⟨K, hK⟩ := hf
  obtain ⟨L, hL⟩ := hx
  exact ⟨max K L, hK _ (by omega), hL _ (by omega)⟩
theorem Ev.some (h : Ev g r) : ∃ k, g k = some r := by obtain ⟨K, hK⟩ := h; exact ⟨K, hK K (Nat.le_refl _)⟩
end
abbrev Bs := List Int
def B (s : ByteArray) : Bs := bytesOf s
theorem B_length (s : ByteArray) : (B s).length = s.size := bytesOf_length s
theorem B_get (s : ByteArray) (i : Nat) (hi : i < s.size) : (B s)[i]? = some (bt s i) := by
  unfold B bytesOf bt
  have h : (i : Int).toNat < s.size := by simpa using hi
  rw [dif_pos h, List.getElem?_map]
  have hl : i < s.data.toList.length := by simpa using hi
  rw [List.getElem?_eq_getElem hl]
  simp only [Option.map_some, Option.some.injEq, Int.toNat_natCast]
  rfl
theorem bt_B (s : ByteArray) (i : Nat) : bt s i = (B s)[i]?.getD 0 := by
  rcases Nat.lt_or_ge i s.size with h | h
  · rw [B_get s i h]; rfl
  · rw [List.getElem?_eq_none (by rw [B_length]; exact h)]
    unfold bt
    rw [dif_neg (by simp; exact h)]
    rfl
theorem B_extract (s : ByteArray) (a b : Nat) : B (s.extract a b) = ((B s).drop a).take (b - a) := by
  unfold B bytesOf
  rw [ByteArray.data_extract, Array.toList_extract]
  simp [List.extract, List.map_take, List.map_drop]
theorem map_inj_byte : ∀ {a b : List UInt8}, a.map (fun b => (b.toNat : Int)) = b.map (fun b => (b.toNat : Int)) → a = b
  | [], [], _ => rfl
  | [], _ :: _, h => by cases h
  | _ :: _, [], h => by cases h
  | x :: a, y :: b, h => by
    injection h with h1 h2
    have h3 : (x.toNat : Int) = y.toNat := h1
    rw [map_inj_byte h2, show x = y from UInt8.toNat_inj.1 (by omega)]
theorem B_inj {a b : ByteArray} (h : B a = B b) : a = b := by
  have h2 := map_inj_byte (show a.data.toList.map (fun b => (b.toNat : Int)) = b.data.toList.map (fun b => (b.toNat : Int)) from h)
  cases a; cases b
  congr 1
  exact Array.toList_inj.1 h2
theorem toList_data (a : ByteArray) : a.toList = a.data.toList := by
  rw [ByteArray.toList_eq]
theorem toList_eq {a b : ByteArray} : a.toList = b.toList ↔ B a = B b := by
  rw [toList_data, toList_data]
  constructor
  · intro h; unfold B bytesOf; rw [h]
  · intro h; rw [B_inj h]
def byte (b : Int) : Prop := 0 ≤ b ∧ b ≤ 255
theorem B_byte (s : ByteArray) : ∀ b ∈ B s, byte b := by
  intro b hb
  obtain ⟨x, _, rfl⟩ := List.mem_map.1 hb
  have := x.toNat_lt
  exact ⟨by omega, by omega⟩
def sp (p : Int → Bool) : Bs → Nat
  | [] => 0
  | b :: l => if p b then sp p l + 1 else 0
theorem sp_le (p : Int → Bool) : ∀ l, sp p l ≤ l.length
  | [] => Nat.le_refl _
  | b :: l => by
    unfold sp
    split
    · have := sp_le p l; simp; omega
    · simp
theorem scan {g : Nat → Int → Option Int} {l : Bs} {p : Int → Bool}
    (hgo : ∀ (i : Nat) (b r : Int), l[i]? = some b → p b = true → Ev (fun k => g k ((i : Int) + 1)) r → Ev (fun k => g k i) r)
    (hst : ∀ (i : Nat) (b : Int), l[i]? = some b → p b = false → Ev (fun k => g k i) (i : Int))
    (hend : ∀ i : Nat, l.length ≤ i → Ev (fun k => g k i) (i : Int)) : ∀ (d i : Nat), i + d = l.length → Ev (fun k => g k i) ((i + sp p (l.drop i) : Nat) : Int) := by
  intro d
  induction d with
  | zero =>
    intro i h
    rw [List.drop_eq_nil_of_le (by omega)]
    exact hend i (by omega)
  | succ d ih =>
    intro i h
    have hi : i < l.length := by omega
    rw [List.drop_eq_getElem_cons hi]
    unfold sp
    cases hp : p l[i] with
    | true =>
      simp only [if_true]
      have := ih (i + 1) (by omega)
      refine hgo i l[i] _ (List.getElem?_eq_getElem hi) hp ?_
      rw [show i + (sp p (l.drop (i + 1)) + 1) = i + 1 + sp p (l.drop (i + 1)) from by omega]
      exact this
    | false =>
      simp only [Bool.false_eq_true, if_false]
      exact hst i l[i] (List.getElem?_eq_getElem hi) hp
end Go.Proofs.YtnjnoabldjodcaaDoor.Tok
set_option linter.unusedVariables false
set_option linter.unusedSimpArgs false
namespace Go.Proofs.YtnjnoabldjodcaaDoor.Tok
open Go.RowKit Go.Proofs.YtnjnoabldjodcaaDoorW.PrintWords Go.Proofs.YtnjnoabldjodcaaDoor.PFnExactTokens
def white (b : Int) : Bool := b == 32 || b == 9 || b == 10 || b == 12 || b == 13
def letter (b : Int) : Bool := (decide (97 ≤ b) && decide (b ≤ 122)) || (decide (65 ≤ b) && decide (b ≤ 90))
def digit (b : Int) : Bool := decide (48 ≤ b) && decide (b ≤ 57)
def lowB (b : Int) : Int := if 65 ≤ b ∧ b ≤ 90 then b + 32 else b
def low (l : Bs) : Bs := l.map lowB
theorem white_f (b : Int) : spec_l1White.f b = some (white b) := by
  unfold spec_l1White.f white
  by_cases h1 : b = 32 <;> by_cases h2 : b = 9 <;> by_cases h3 : b = 10 <;> by_cases h4 : b = 12 <;> simp [h1, h2, h3, h4]
theorem letter_f (b : Int) : spec_l1Letter.f b = some (letter b) := by
  unfold spec_l1Letter.f letter
  by_cases h1 : b ≥ 97 <;> by_cases h2 : b ≤ 122 <;> by_cases h3 : b ≥ 65 <;> by_cases h4 : b ≤ 90 <;> simp [h1, h2, h3, h4] <;> omega
theorem digit_f (b : Int) : spec_l1Digit.f b = some (digit b) := by
  unfold spec_l1Digit.f digit
  by_cases h1 : b ≥ 48 <;> by_cases h2 : b ≤ 57 <;> simp [h1, h2] <;> omega
theorem lowB_f (b : Int) (h : byte b) : spec_l1LowerByte.f b = some (lowB b) := by
  unfold spec_l1LowerByte.f lowB
  have := h.1
  by_cases h1 : b ≥ 65
  · by_cases h2 : b ≤ 90
    · rw [if_pos h1, if_pos h2, if_pos ⟨h1, h2⟩]; congr 1; omega
    · rw [if_pos h1, if_neg h2, if_neg (fun h => h2 h.2)]
  · rw [if_neg h1, if_neg (fun h => h1 h.1)]
theorem lowB_byte {b : Int} (h : byte b) : byte (lowB b) := by
  unfold lowB byte at *
  split <;> omega
def S (l : Bs) : ByteArray := strOfNums l
theorem B_S {l : Bs} (h : ∀ b ∈ l, byte b) : B (S l) = l := by
  show (l.map fun n => UInt8.ofNat n.toNat).map (fun b => (b.toNat : Int)) = l
  rw [List.map_map]
  refine (List.map_congr_left fun b hb => ?_).trans (List.map_id l)
  have := h b hb
  show ((UInt8.ofNat b.toNat).toNat : Int) = b
  rw [UInt8.toNat_ofNat']
  unfold byte at this
  omega
theorem S_B (s : ByteArray) : S (B s) = s := B_inj (B_S (B_byte s))
theorem bt_some {s : ByteArray} {i : Nat} {b : Int} (h : (B s)[i]? = some b) : bt s i = b ∧ i < s.size := by
  have hi : i < s.size := by
    rw [← B_length]
    exact (List.getElem?_eq_some_iff.1 h).1
  rw [B_get s i hi] at h
  injection h with h
  exact ⟨h, hi⟩
theorem low_f (s : ByteArray) (hs : s.size < 2 ^ 46) : Ev (fun k => spec_l1Lower.f k s) (S (low (B s))) := by
  have key : ∀ (d i : Nat), i + d = s.size → Ev (fun k => spec_l1Lower.l0 k s (low ((B s).take i)) i) (S (low (B s))) := by
    intro d
    induction d with
    | zero =>
      intro i h
      rw [List.take_of_length_le (by rw [B_length]; omega)]
      exact Ev.done fun k => by simp only [spec_l1Lower.l0]; rw [if_neg (by omega)]; rfl
    | succ d ih =>
      intro i h
      have hi : i < s.size := by omega
      have hl : i < (B s).length := by rw [B_length]; exact hi
      refine (ih (i + 1) (by omega)).step fun k => ?_
      simp only [spec_l1Lower.l0]
      have hb : byte (bt s i) := bt_range s i
      rw [if_pos (by omega), if_pos (by omega), lowB_f _ hb, Option.bind_some, if_pos (by simp [low]; omega), w64 (by omega) (by omega)]
      congr 1
      rw [List.take_succ_eq_append_getElem hl]
      have := B_get s i hi
      rw [List.getElem?_eq_getElem hl] at this
      injection this with this
      simp [low, this]
  exact (key s.size 0 (by omega)).same fun k => by simp only [spec_l1Lower.f]; rfl
theorem ends_f (b : Int) (m : ByteArray) (hm : m.size < 2 ^ 46) : Ev (fun k => spec_l2Ends.f k b m) (white b || (B m).contains b) := by
  have key : ∀ (d i : Nat), i + d = m.size → Ev (fun k => spec_l2Ends.l0 k b m i) (((B m).drop i).contains b) := by
    intro d
    induction d with
    | zero =>
      intro i h
      rw [List.drop_eq_nil_of_le (by rw [B_length]; omega)]
      exact Ev.done fun k => by simp only [spec_l2Ends.l0]; rw [if_neg (by omega)]; rfl
    | succ d ih =>
      intro i h
      have hi : i < m.size := by omega
      have hl : i < (B m).length := by rw [B_length]; exact hi
      have hg := B_get m i hi
      rw [List.getElem?_eq_getElem hl] at hg
      injection hg with hg
      rw [List.drop_eq_getElem_cons hl, hg]
      by_cases c : b = bt m i
      · rw [show (bt m ↑i :: List.drop (i + 1) (B m)).contains b = true from by rw [c]; simp]
        exact Ev.done fun k => by simp only [spec_l2Ends.l0]; rw [if_pos (by omega), if_pos (by omega), if_pos c]
      · rw [show (bt m ↑i :: List.drop (i + 1) (B m)).contains b = (List.drop (i + 1) (B m)).contains b from by simp [List.contains_cons, c]]
        refine (ih (i + 1) (by omega)).step fun k => ?_
        simp only [spec_l2Ends.l0]
        rw [if_pos (by omega), if_pos (by omega), if_neg c, w64 (by omega) (by omega)]
        rfl
  refine Ev.same (g := fun k => if white b = true then some true else spec_l2Ends.l0 k b m 0) ?_ (fun k => by simp only [spec_l2Ends.f, white_f, Option.bind_some])
  cases hw : white b with
  | true => exact Ev.const _
  | false =>
    have := key m.size 0 (by omega)
    simpa using this
theorem over_f (s : ByteArray) (hs : s.size < 2 ^ 46) (i : Nat) (hi : i ≤ s.size) : Ev (fun k => spec_l2Over.f k s i) ((i + sp white ((B s).drop i) : Nat) : Int) := by
  obtain ⟨d, hd⟩ : ∃ d, i + d = s.size := ⟨s.size - i, by omega⟩
  refine (scan (g := fun k x => spec_l2Over.l0 k s x) (l := B s) (p := white) ?_ ?_ ?_ d i (by rw [B_length]; exact hd)).same (fun k => by simp only [spec_l2Over.f])
  · intro j b r hb hw h
    obtain ⟨h1, h2⟩ := bt_some hb
    refine h.step fun k => ?_
    simp only [spec_l2Over.l0]
    rw [if_pos (by omega), if_pos (by omega), h1, white_f, Option.bind_some, if_pos hw, w64 (by omega) (by omega)]
  · intro j b hb hw
    obtain ⟨h1, h2⟩ := bt_some hb
    exact Ev.done fun k => by simp only [spec_l2Over.l0]; rw [if_pos (by omega), if_pos (by omega), h1, white_f, Option.bind_some, if_neg (by rw [hw]; simp)]
  · intro j hj
    rw [B_length] at hj
    exact Ev.done fun k => by simp only [spec_l2Over.l0]; rw [if_neg (by omega)]
theorem find_f (s : ByteArray) (hs : s.size < 2 ^ 46) (c : Int) (i : Nat) (hi : i ≤ s.size) : Ev (fun k => spec_l2Find.f k s i c) ((i + sp (fun b => b != c) ((B s).drop i) : Nat) : Int) := by
  obtain ⟨d, hd⟩ : ∃ d, i + d = s.size := ⟨s.size - i, by omega⟩
  refine (scan (g := fun k x => spec_l2Find.l0 k s x c) (l := B s) (p := fun b => b != c) ?_ ?_ ?_ d i (by rw [B_length]; exact hd)).same (fun k => by simp only [spec_l2Find.f])
  · intro j b r hb hw h
    obtain ⟨h1, h2⟩ := bt_some hb
    refine h.step fun k => ?_
    simp only [spec_l2Find.l0]
    rw [if_pos (by omega), if_pos (by omega), h1, if_neg (by simpa using hw), w64 (by omega) (by omega)]
  · intro j b hb hw
    obtain ⟨h1, h2⟩ := bt_some hb
    exact Ev.done fun k => by simp only [spec_l2Find.l0]; rw [if_pos (by omega), if_pos (by omega), h1, if_pos (by simpa using hw)]
  · intro j hj
    rw [B_length] at hj
    exact Ev.done fun k => by simp only [spec_l2Find.l0]; rw [if_neg (by omega)]
def endsIn (m : Bs) (b : Int) : Bool := white b || m.contains b
theorem until_f (s m : ByteArray) (hs : s.size < 2 ^ 46) (hm : m.size < 2 ^ 46) (i : Nat) (hi : i ≤ s.size) : Ev (fun k => spec_l2Until.f k s i m) ((i + sp (fun b => !endsIn (B m) b) ((B s).drop i) : Nat) : Int) := by
  obtain ⟨d, hd⟩ : ∃ d, i + d = s.size := ⟨s.size - i, by omega⟩
  refine (scan (g := fun k x => spec_l2Until.l0 k s x m) (l := B s) (p := fun b => !endsIn (B m) b) ?_ ?_ ?_ d i (by rw [B_length]; exact hd)).same (fun k => by simp only [spec_l2Until.f])
  · intro j b r hb hw h
    obtain ⟨h1, h2⟩ := bt_some hb
    have he : Ev (fun k => spec_l2Ends.f k b m) false := by
      have := ends_f b m hm
      rwa [show (white b || (B m).contains b) = false from by simpa [endsIn] using hw] at this
    refine Ev.step (g := fun k => (spec_l2Ends.f k b m).bind fun t => if t = true then some (j : Int) else spec_l2Until.l0 k s ((j : Int) + 1) m) (Ev.bind he (by simpa using h)) fun k => ?_
    simp only [spec_l2Until.l0]
    rw [if_pos (by omega), if_pos (by omega), h1, w64 (by omega) (by omega)]
  · intro j b hb hw
    obtain ⟨h1, h2⟩ := bt_some hb
    have he : Ev (fun k => spec_l2Ends.f k b m) true := by
      have := ends_f b m hm
      rwa [show (white b || (B m).contains b) = true from by unfold endsIn at hw; cases h : (white b || (B m).contains b) <;> simp_all] at this
    refine Ev.step (g := fun k => (spec_l2Ends.f k b m).bind fun t => if t = true then some (j : Int) else spec_l2Until.l0 k s ((j : Int) + 1) m) (Ev.bind he (by simpa using Ev.const _)) fun k => ?_
    simp only [spec_l2Until.l0]
    rw [if_pos (by omega), if_pos (by omega), h1, w64 (by omega) (by omega)]
  · intro j hj
    rw [B_length] at hj
    exact Ev.done fun k => by simp only [spec_l2Until.l0]; rw [if_neg (by omega)]
theorem behind_f (s : ByteArray) (hs : s.size < 2 ^ 46) (i : Nat) (hi : i ≤ s.size) : spec_l2Behind.f i s = some ((if i < s.size then i + 1 else i : Nat) : Int) := by
  unfold spec_l2Behind.f
  by_cases c : i < s.size
  · rw [if_pos (by omega), if_pos c, w64 (by omega) (by omega)]; rfl
  · rw [if_neg (by omega), if_neg c]
def pre (w l : Bs) : Bool := decide (l.take w.length = w)
theorem stands_f (s w : ByteArray) (hs : s.size < 2 ^ 46) (hw : w.size < 2 ^ 46) (h0 : 0 < w.size) (i : Nat) : spec_l2Stands.f s i w = some (pre (B w) ((B s).drop i)) := by
  unfold spec_l2Stands.f
  rw [if_pos (by omega)]
  by_cases c1 : (i : Int) ≤ s.size
  · rw [if_pos c1, w64 (by omega) (by omega)]
    by_cases c2 : (i : Int) + w.size ≤ s.size
    · rw [if_pos c2, if_pos (by omega), if_pos (by omega)]
      congr 1
      unfold pre
      rw [Bool.eq_iff_iff, beq_iff_eq, decide_eq_true_eq, toList_eq, B_extract, B_length]
      rw [show ((i : Int) + w.size).toNat - (i : Int).toNat = w.size from by omega, Int.toNat_natCast]
    · rw [if_neg c2]
      congr 1
      unfold pre
      rw [eq_comm, decide_eq_false_iff_not]
      intro h
      have := congrArg List.length h
      rw [List.length_take, List.length_drop, B_length, B_length] at this
      omega
  · rw [if_neg c1]
    congr 1
    unfold pre
    rw [eq_comm, decide_eq_false_iff_not]
    intro h
    have := congrArg List.length h
    rw [List.length_take, List.length_drop, B_length, B_length] at this
    omega
end Go.Proofs.YtnjnoabldjodcaaDoor.Tok
set_option linter.unusedVariables false
set_option linter.unusedSimpArgs false
namespace Go.Proofs.YtnjnoabldjodcaaDoor.Tok
open Go.RowKit Go.Proofs.YtnjnoabldjodcaaDoorW.PrintWords Go.Proofs.YtnjnoabldjodcaaDoor.PFnExactTokens
def enc (n : Int) : Bs :=
  if n < 128 then [n] else if n < 2048 then [192 + n / 64, 128 + n % 64] else if n < 65536 then [224 + n / 4096, 128 + n / 64 % 64, 128 + n % 64] else [240 + n / 262144, 128 + n / 4096 % 64, 128 + n / 64 % 64, 128 + n % 64]
def off (n : Int) : Bool := decide (n < 0) || decide (n > 1114111) || (decide (55296 ≤ n) && decide (n ≤ 57343))
def put (n : Int) : Bs := if off n then enc 65533 else enc n
theorem put_byte (n : Int) : ∀ b ∈ put n, byte b := by
  have key : ∀ m : Int, 0 ≤ m → m ≤ 1114111 → ∀ b ∈ enc m, byte b := by
    intro m h0 h1 b hb
    unfold enc at hb
    unfold byte
    split at hb
    · simp at hb; omega
    split at hb
    · simp at hb; omega
    split at hb
    · simp at hb; omega
    · simp at hb; omega
  unfold put
  split
  · exact key _ (by omega) (by omega)
  · rename_i h
    simp [off] at h
    exact key _ (by omega) (by omega)
theorem put1_f (n : Int) (h0 : 0 ≤ n) (h1 : n ≤ 1114111) (k : Nat) : spec_l1Put.j1 (k + 1) [] n = some (enc n) := by
  simp only [spec_l1Put.j1]
  unfold enc
  have td : ∀ m : Int, Int.tdiv n m = n / m := fun m => Int.tdiv_eq_ediv_of_nonneg h0
  by_cases c1 : n < 128
  · rw [if_pos c1, if_pos (by simp), if_pos c1]; simp; omega
  by_cases c2 : n < 2048
  · rw [if_neg c1, if_pos c2, if_neg c1, if_pos c2]
    simp only [Option.bind_some]
    rw [if_pos (by simp), td, Int.tmod_eq_emod_of_nonneg h0, w64 (n := n / 64) (by omega) (by omega), w64 (by omega) (by omega), w64 (by omega) (by omega)]
    simp only [List.nil_append, Option.some.injEq, List.cons.injEq, and_true]
    omega
  by_cases c3 : n < 65536
  · rw [if_neg c1, if_neg c2, if_pos c3, if_neg c1, if_neg c2, if_pos c3]
    simp only [Option.bind_some]
    rw [if_pos (by simp), td, td, w64 (n := n / 4096) (by omega) (by omega), w64 (n := n / 64) (by omega) (by omega), Int.tmod_eq_emod_of_nonneg h0, Int.tmod_eq_emod_of_nonneg (by omega), w64 (by omega) (by omega), w64 (by omega) (by omega), w64 (by omega) (by omega)]
    simp only [List.nil_append, Option.some.injEq, List.cons.injEq, and_true]
    omega
  · rw [if_neg c1, if_neg c2, if_neg c3, if_neg c1, if_neg c2, if_neg c3]
    simp only [Option.bind_some]
    rw [if_pos (by simp), td, td, td, w64 (n := n / 262144) (by omega) (by omega), w64 (n := n / 4096) (by omega) (by omega), w64 (n := n / 64) (by omega) (by omega), Int.tmod_eq_emod_of_nonneg h0, Int.tmod_eq_emod_of_nonneg (a := n / 4096) (by omega), Int.tmod_eq_emod_of_nonneg (a := n / 64) (by omega), w64 (by omega) (by omega), w64 (by omega) (by omega), w64 (by omega) (by omega), w64 (by omega) (by omega)]
    simp only [List.nil_append, Option.some.injEq, List.cons.injEq, and_true]
    omega
theorem put_f (n : Int) : Ev (fun k => spec_l1Put.f k [] n) (put n) := by
  refine ⟨2, fun k hk => ?_⟩
  obtain ⟨m, rfl⟩ : ∃ m, k = m + 2 := ⟨k - 2, by omega⟩
  have h0 : ∀ b : Bool, off n = b → spec_l1Put.j0 (m + 2) [] n b = some (put n) := fun b hb => by
    simp only [spec_l1Put.j0]
    unfold put
    rw [hb]
    cases b with
    | true => simp only [if_true]; exact put1_f 65533 (by omega) (by omega) m
    | false =>
      simp only [Bool.false_eq_true, if_false]
      simp [off] at hb
      exact put1_f n (by omega) (by omega) m
  simp only [spec_l1Put.f]
  by_cases c1 : n < 0
  · rw [if_pos c1]; exact h0 true (by simp [off, c1])
  by_cases c2 : n > 1114111
  · rw [if_neg c1, if_pos c2]; exact h0 true (by simp [off, c2])
  by_cases c3 : n ≥ 55296
  · rw [if_neg c1, if_neg c2, if_pos c3]
    exact h0 _ (by simp [off, c1, c2]; omega)
  · rw [if_neg c1, if_neg c2, if_neg c3]
    exact h0 _ (by simp [off, c1, c2]; omega)
def hexv (b : Int) : Int := if digit b then b - 48 else if 97 ≤ b ∧ b ≤ 102 then b - 87 else if 65 ≤ b ∧ b ≤ 70 then b - 55 else 99
theorem hex_f (b : Int) (h : byte b) : Ev (fun k => spec_l2Hex.f k b) (hexv b) := by
  refine ⟨1, fun k hk => ?_⟩
  obtain ⟨m, rfl⟩ : ∃ m, k = m + 1 := ⟨k - 1, by omega⟩
  have := h.1
  have := h.2
  simp only [spec_l2Hex.f, digit_f, Option.bind_some]
  unfold hexv
  cases hd : digit b with
  | true =>
    simp only [if_true]
    simp [digit] at hd
    congr 1; omega
  | false =>
    simp only [Bool.false_eq_true, if_false]
    by_cases c1 : b ≥ 97
    · rw [if_pos c1]
      simp only [spec_l2Hex.j0]
      by_cases c2 : b ≤ 102
      · rw [if_pos (by simpa using c2), if_pos ⟨c1, c2⟩]; congr 1; omega
      · rw [if_neg (by simpa using c2), if_pos (by omega), if_neg (by omega), if_neg (by omega), if_neg (by omega)]
    · rw [if_neg c1]
      simp only [spec_l2Hex.j0, Bool.false_eq_true, if_false]
      by_cases c2 : b ≥ 65
      · by_cases c3 : b ≤ 70
        · rw [if_pos c2, if_pos c3, if_neg (fun h => c1 h.1), if_pos ⟨c2, c3⟩]; congr 1; omega
        · rw [if_pos c2, if_neg c3, if_neg (fun h => c1 h.1), if_neg (fun h => c3 h.2)]
      · rw [if_neg c2, if_neg (fun h => c1 h.1), if_neg (fun h => c2 h.1)]
theorem hexv_pos (b : Int) : 0 ≤ hexv b ∧ hexv b ≤ 99 := by
  unfold hexv
  split
  · rename_i h; simp [digit] at h; omega
  · split
    · omega
    · split <;> omega
def numLoop (base : Int) : Bs → Int → Nat × Int
  | [], n => (0, n)
  | b :: l, n => if hexv b < base then ((numLoop base l (if n ≤ 1114111 then n * base + hexv b else n)).1 + 1, (numLoop base l (if n ≤ 1114111 then n * base + hexv b else n)).2) else (0, n)
theorem numLoop_le (base : Int) : ∀ (l : Bs) (n : Int), (numLoop base l n).1 ≤ l.length
  | [], n => Nat.le_refl _
  | b :: l, n => by
    unfold numLoop
    split
    · have := numLoop_le base l (if n ≤ 1114111 then n * base + hexv b else n)
      simp; omega
    · simp
theorem num_l0 (s : ByteArray) (hs : s.size < 2 ^ 46) (at_ base fr : Int) (hbase : base = 10 ∨ base = 16) (R : Nat → Int → ByteArray × Int)
    (lo : Nat) (hfin : ∀ (i : Nat) (n : Int), lo ≤ i → i ≤ s.size → 0 ≤ n → n < 2 ^ 30 → Ev (fun k => spec_l2Number.j3 k s at_ i base fr n false) (R i n)) : ∀ (d i : Nat) (n : Int), lo ≤ i → i + d = s.size → 0 ≤ n → n < 2 ^ 30 →
    Ev (fun k => spec_l2Number.l0 k s at_ i base fr n) (R (i + (numLoop base ((B s).drop i) n).1) (numLoop base ((B s).drop i) n).2) := by
  intro d
  induction d with
  | zero =>
    intro i n hlo h h0 h1
    rw [List.drop_eq_nil_of_le (by rw [B_length]; omega)]
    simp only [numLoop, Nat.add_zero]
    exact (hfin i n hlo (by omega) h0 h1).step fun k => by simp only [spec_l2Number.l0]; rw [if_neg (by omega)]
  | succ d ih =>
    intro i n hlo h h0 h1
    have hi : i < s.size := by omega
    have hl : i < (B s).length := by rw [B_length]; exact hi
    have hg := B_get s i hi
    rw [List.getElem?_eq_getElem hl] at hg
    injection hg with hg
    rw [List.drop_eq_getElem_cons hl, hg]
    simp only [numLoop]
    have hx := hex_f (bt s i) (bt_range s i)
    have hxv := hexv_pos (bt s i)
    have hg2 : Ev (fun k => spec_l2Number.j3 k s at_ i base fr n (decide (hexv (bt s i) < base))) (if hexv (bt s i) < base then R (i + ((numLoop base ((B s).drop (i + 1)) (if n ≤ 1114111 then n * base + hexv (bt s i) else n)).1 + 1)) (numLoop base ((B s).drop (i + 1)) (if n ≤ 1114111 then n * base + hexv (bt s i) else n)).2 else R i n) := by
      by_cases c : hexv (bt s i) < base
      · rw [if_pos c]
        have ih2 := ih (i + 1) (if n ≤ 1114111 then n * base + hexv (bt s i) else n) (by omega) (by omega) (by split <;> rcases hbase with rfl | rfl <;> omega) (by split <;> rcases hbase with rfl | rfl <;> omega)
        rw [show i + 1 + (numLoop base ((B s).drop (i + 1)) (if n ≤ 1114111 then n * base + hexv (bt s i) else n)).1 = i + ((numLoop base ((B s).drop (i + 1)) (if n ≤ 1114111 then n * base + hexv (bt s i) else n)).1 + 1) from by omega] at ih2
        by_cases c2 : n ≤ 1114111
        · rw [if_pos c2] at ih2 ⊢
          refine Ev.step (g := fun k => (spec_l2Hex.f k (bt s i)).bind fun t => spec_l2Number.l0 k s at_ (wrap64 ((i : Int) + 1)) base fr (wrap64 ((wrap64 (n * base)) + t))) (Ev.bind hx ?_) fun k => by
            simp only [spec_l2Number.j3]
            rw [if_pos (by simpa using c), if_pos c2, if_pos (by omega), if_pos (by omega)]
          rw [w64 (n := (i : Int) + 1) (by omega) (by omega), w64 (n := n * base) (by rcases hbase with rfl | rfl <;> omega) (by rcases hbase with rfl | rfl <;> omega), w64 (by rcases hbase with rfl | rfl <;> omega) (by rcases hbase with rfl | rfl <;> omega)]
          exact ih2
        · rw [if_neg c2] at ih2 ⊢
          refine ih2.step fun k => ?_
          simp only [spec_l2Number.j3]
          rw [if_pos (by simpa using c), if_neg c2, w64 (by omega) (by omega)]
          rfl
      · rw [if_neg c, decide_eq_false c]
        exact hfin i n hlo (by omega) h0 h1
    have he : (if hexv (bt s i) < base then R (i + ((numLoop base ((B s).drop (i + 1)) (if n ≤ 1114111 then n * base + hexv (bt s i) else n)).1 + 1)) (numLoop base ((B s).drop (i + 1)) (if n ≤ 1114111 then n * base + hexv (bt s i) else n)).2 else R i n) =
        R (i + (if hexv (bt s i) < base then ((numLoop base ((B s).drop (i + 1)) (if n ≤ 1114111 then n * base + hexv (bt s i) else n)).1 + 1, (numLoop base ((B s).drop (i + 1)) (if n ≤ 1114111 then n * base + hexv (bt s i) else n)).2) else (0, n)).1) (if hexv (bt s i) < base then ((numLoop base ((B s).drop (i + 1)) (if n ≤ 1114111 then n * base + hexv (bt s i) else n)).1 + 1, (numLoop base ((B s).drop (i + 1)) (if n ≤ 1114111 then n * base + hexv (bt s i) else n)).2) else (0, n)).2 := by
      split <;> rfl
    rw [← he]
    refine Ev.step (g := fun k => (spec_l2Hex.f k (bt s i)).bind fun t => spec_l2Number.j3 k s at_ i base fr n (decide (t < base))) (Ev.bind hx hg2) fun k => ?_
    simp only [spec_l2Number.l0]
    rw [if_pos (by omega), if_pos (by omega)]
def isX : Bs → Bool
  | b :: _ => b == 120 || b == 88
  | [] => false
def number (l : Bs) : Bs × Nat :=
  if (numLoop (if isX l then 16 else 10) (l.drop (if isX l then 1 else 0)) 0).1 = 0 then ([], 0)
  else (put (if (numLoop (if isX l then 16 else 10) (l.drop (if isX l then 1 else 0)) 0).2 = 0 then -1 else (numLoop (if isX l then 16 else 10) (l.drop (if isX l then 1 else 0)) 0).2),
    2 + ((if isX l then 1 else 0) + (numLoop (if isX l then 16 else 10) (l.drop (if isX l then 1 else 0)) 0).1) + (if (l.drop ((if isX l then 1 else 0) + (numLoop (if isX l then 16 else 10) (l.drop (if isX l then 1 else 0)) 0).1)).head? = some 59 then 1 else 0))
theorem S_nil : S [] = (⟨#[]⟩ : ByteArray) := rfl
theorem head_B (s : ByteArray) (i : Nat) (hi : i < s.size) : ((B s).drop i).head? = some (bt s i) := by
  rw [List.head?_drop, B_get s i hi]
theorem head_end (s : ByteArray) (i : Nat) (hi : s.size ≤ i) : ((B s).drop i).head? = none := by
  rw [List.head?_drop, List.getElem?_eq_none (by rw [B_length]; exact hi)]
theorem num_fin (s : ByteArray) (hs : s.size < 2 ^ 46) (a fr base : Nat) (ha : a ≤ fr) (hf : fr ≤ s.size) (i : Nat) (n : Int) (hi : i ≤ s.size) (hfi : fr ≤ i) (h0 : 0 ≤ n) :
    Ev (fun k => spec_l2Number.j3 k s a i (base : Int) fr n false) (if i = fr then (S [], 0) else (S (put (if n = 0 then -1 else n)), (((i - a : Nat) : Int) + (if ((B s).drop i).head? = some 59 then 1 else 0)))) := by
  by_cases c : i = fr
  · rw [if_pos c]
    subst c
    exact Ev.done fun k => by simp only [spec_l2Number.j3, Bool.false_eq_true, if_false, if_true]; rfl
  · rw [if_neg c]
    have c' : ¬ (i : Int) = fr := by omega
    have hp := put_f (if n = 0 then -1 else n)
    have h4 : ∀ b : Bool, b = decide (((B s).drop i).head? = some 59) → Ev (fun k => spec_l2Number.j4 k a i n b) (S (put (if n = 0 then -1 else n)), (((i - a : Nat) : Int) + (if ((B s).drop i).head? = some 59 then 1 else 0))) := fun b hb => by
      refine Ev.step (g := fun k => (spec_l1Put.f k [] (if n = 0 then -1 else n)).bind fun t => some (strOfNums t, if b = true then wrap64 (wrap64 ((i : Int) + 1) - a) else wrap64 ((i : Int) - a))) (Ev.bind hp ?_) fun k => by
        simp only [spec_l2Number.j4]
        cases b <;> by_cases hn : n = 0 <;> simp [hn]
      have e : (if b = true then wrap64 (wrap64 ((i : Int) + 1) - a) else wrap64 ((i : Int) - a)) = (((i - a : Nat) : Int) + (if ((B s).drop i).head? = some 59 then 1 else 0)) := by
        by_cases hh : ((B s).drop i).head? = some 59
        · rw [hb, if_pos (by simpa using hh), if_pos hh, w64 (n := (i : Int) + 1) (by omega) (by omega), w64 (by omega) (by omega)]; omega
        · rw [hb, if_neg (by simpa using hh), if_neg hh, w64 (by omega) (by omega)]; omega
      rw [e]
      exact Ev.const _
    rcases Nat.lt_or_ge i s.size with hlt | hge
    · refine (h4 (bt s i == 59) (by rw [head_B s i hlt, Bool.eq_iff_iff]; simp)).step fun k => ?_
      simp only [spec_l2Number.j3, Bool.false_eq_true, if_false]
      rw [if_neg c', if_pos (by omega), if_pos (by omega)]
    · refine (h4 false (by rw [head_end s i hge]; simp)).step fun k => ?_
      simp only [spec_l2Number.j3, Bool.false_eq_true, if_false]
      rw [if_neg c', if_neg (by omega)]
theorem number_f (s : ByteArray) (hs : s.size < 2 ^ 46) (a : Nat) (ha : a + 2 ≤ s.size) : Ev (fun k => spec_l2Number.f k s a) (S (number ((B s).drop (a + 2))).1, ((number ((B s).drop (a + 2))).2 : Int)) := by
  have main : ∀ (o base : Nat), (base = 10 ∨ base = 16) → a + 2 + o ≤ s.size → isX ((B s).drop (a + 2)) = decide (o = 1) → o ≤ 1 → base = (if o = 1 then 16 else 10) →
      Ev (fun k => spec_l2Number.l0 k s a ((a + 2 + o : Nat) : Int) base ((a + 2 + o : Nat) : Int) 0) (S (number ((B s).drop (a + 2))).1, ((number ((B s).drop (a + 2))).2 : Int)) := by
    intro o base hb ho hx ho1 hbo
    obtain ⟨d, hd⟩ : ∃ d, a + 2 + o + d = s.size := ⟨s.size - (a + 2 + o), by omega⟩
    have h := num_l0 s hs a base ((a + 2 + o : Nat) : Int) (by rcases hb with rfl | rfl; exact .inl rfl; exact .inr rfl)
      (fun i n => if i = a + 2 + o then (S [], 0) else (S (put (if n = 0 then -1 else n)), (((i - a : Nat) : Int) + (if ((B s).drop i).head? = some 59 then 1 else 0))))
      (a + 2 + o) (fun i n hlo hi h0 h1 => num_fin s hs a (a + 2 + o) base (by omega) ho i n hi hlo h0) d (a + 2 + o) 0 (Nat.le_refl _) hd (by omega) (by omega)
    have ex : isX ((B s).drop (a + 2)) = decide (o = 1) := hx
    have eo : (if isX ((B s).drop (a + 2)) then 1 else 0 : Nat) = o := by rw [ex]; by_cases h1 : o = 1 <;> simp [h1]; omega
    have eb : (if isX ((B s).drop (a + 2)) then 16 else 10 : Int) = base := by rw [ex, hbo]; by_cases h1 : o = 1 <;> simp [h1]
    have en : number ((B s).drop (a + 2)) = (if (numLoop base ((B s).drop (a + 2 + o)) 0).1 = 0 then ([], 0) else (put (if (numLoop base ((B s).drop (a + 2 + o)) 0).2 = 0 then -1 else (numLoop base ((B s).drop (a + 2 + o)) 0).2), 2 + (o + (numLoop base ((B s).drop (a + 2 + o)) 0).1) + (if ((B s).drop (a + 2 + o + (numLoop base ((B s).drop (a + 2 + o)) 0).1)).head? = some 59 then 1 else 0))) := by
      unfold number
      rw [eo, eb, List.drop_drop, List.drop_drop, show a + 2 + (o + (numLoop base ((B s).drop (a + 2 + o)) 0).1) = a + 2 + o + (numLoop base ((B s).drop (a + 2 + o)) 0).1 from by omega]
    rw [en]
    generalize numLoop base ((B s).drop (a + 2 + o)) 0 = r at h ⊢
    obtain ⟨r1, r2⟩ := r
    simp only at h ⊢
    by_cases c : r1 = 0
    · subst c
      simpa using h
    · rw [if_neg c]
      rw [if_neg (by omega)] at h
      have e2 : (((a + 2 + o + r1 - a : Nat) : Int) + (if ((B s).drop (a + 2 + o + r1)).head? = some 59 then 1 else 0)) = ((2 + (o + r1) + (if ((B s).drop (a + 2 + o + r1)).head? = some 59 then 1 else 0) : Nat) : Int) := by
        split <;> omega
      rw [e2] at h
      exact h
  rcases Nat.lt_or_ge (a + 2) s.size with hlt | hge
  · have hh := head_B s (a + 2) hlt
    have hX : isX ((B s).drop (a + 2)) = (bt s ((a + 2 : Nat) : Int) == 120 || bt s ((a + 2 : Nat) : Int) == 88) := by
      cases hd : (B s).drop (a + 2) with
      | nil => rw [hd] at hh; cases hh
      | cons b l => rw [hd] at hh; injection hh with hh; simp [isX, hh]
    have fin : ∀ b : Bool, isX ((B s).drop (a + 2)) = b → Ev (fun k => spec_l2Number.j0 k s a ((a + 2 : Nat) : Int) 10 b) (S (number ((B s).drop (a + 2))).1, ((number ((B s).drop (a + 2))).2 : Int)) := fun b hb => by
      cases b with
      | true =>
        have h := main 1 16 (.inr rfl) (by omega) (by rw [hb]; rfl) (by omega) rfl
        refine (h.step (f := fun k => spec_l2Number.j1 k s a ((a + 2 + 1 : Nat) : Int) 16) fun k => by simp only [spec_l2Number.j1]; rfl).step fun k => ?_
        simp only [spec_l2Number.j0, if_true]
        rw [w64 (by omega) (by omega)]
        rfl
      | false =>
        have h := main 0 10 (.inl rfl) (by omega) (by rw [hb]; rfl) (by omega) rfl
        refine (h.step (f := fun k => spec_l2Number.j1 k s a ((a + 2 : Nat) : Int) 10) fun k => by simp only [spec_l2Number.j1]; rfl).step fun k => ?_
        simp only [spec_l2Number.j0, Bool.false_eq_true, if_false]
    have ea : wrap64 ((a : Int) + 2) = ((a + 2 : Nat) : Int) := by rw [w64 (by omega) (by omega)]; rfl
    by_cases c : bt s ((a + 2 : Nat) : Int) = 120
    · refine (fin true (by rw [hX, c]; rfl)).same fun k => ?_
      simp only [spec_l2Number.f, ea]
      rw [if_pos (by omega), if_pos (by omega), if_pos c]
    · refine (fin (bt s ((a + 2 : Nat) : Int) == 88) (by rw [hX, show (bt s ((a + 2 : Nat) : Int) == 120) = false from beq_eq_false_iff_ne.2 c, Bool.false_or])).same fun k => ?_
      simp only [spec_l2Number.f, ea]
      rw [if_pos (by omega), if_pos (by omega), if_neg c]
  · have hX : isX ((B s).drop (a + 2)) = false := by rw [List.drop_eq_nil_of_le (by rw [B_length]; omega)]; rfl
    have ea : wrap64 ((a : Int) + 2) = ((a + 2 : Nat) : Int) := by rw [w64 (by omega) (by omega)]; rfl
    have h := main 0 10 (.inl rfl) (by omega) (by rw [hX]; rfl) (by omega) rfl
    refine Ev.same ((h.step (f := fun k => spec_l2Number.j1 k s a ((a + 2 : Nat) : Int) 10) fun k => by simp only [spec_l2Number.j1]; rfl).step (f := fun k => spec_l2Number.j0 k s a ((a + 2 : Nat) : Int) 10 false) fun k => by simp only [spec_l2Number.j0, Bool.false_eq_true, if_false]) fun k => ?_
    simp only [spec_l2Number.f, ea]
    rw [if_neg (by omega)]
end Go.Proofs.YtnjnoabldjodcaaDoor.Tok
