/- Part 20 of the proof: DoCut, DoTaken, DoGiven, DoSpot, DoEndM. -/
import Derived.Test.YthjgohbkpjhkeaaGreatDoorA1
import Derived.Test.YthjgohbkpjhkeaaGreatDoorA19
set_option linter.unusedVariables false
set_option linter.unusedSimpArgs false
namespace Go.Proofs.YthjgohbkpjhkeaaGreatDoor.Tr
theorem E_shift {ks ks' : List Nat} {δ : Nat} : ∀ (d q m s : Nat), s - q = d → E ks q m = some s → δ ≤ q → (∀ t, q ≤ t → t < s → ks'[t - δ]? = ks[t]?) → E ks' (q - δ) m = some (s - δ) := by
 intro d
 induction d with
 | zero =>
  intro q m s hd h hδ hk
  cases m with
  | zero =>
   rw [E_zero] at h ⊢
   injection h with h
   rw [h]
  | succ m =>
   have := (E_bounds h).2 (by omega)
   omega
 | succ d ih =>
  intro q m s hd h hδ hk
  cases m with
  | zero =>
   rw [E_zero] at h
   injection h with h
   omega
  | succ m =>
   have hb := (E_bounds h).2 (by omega)
   have hq : q < ks.length := by omega
   have h0 := hk q (Nat.le_refl _) (by omega)
   rw [List.getElem?_eq_getElem hq] at h0
   have hq' : q - δ < ks'.length := (List.getElem?_eq_some_iff.1 h0).1
   rw [E_step hq] at h
   have e : ks'.getD (q - δ) 0 = ks.getD q 0 := by rw [List.getD_eq_getElem?_getD, h0, List.getD_eq_getElem?_getD, List.getElem?_eq_getElem hq]
   rw [E_step hq', e, show q - δ + 1 = q + 1 - δ from by omega]
   exact ih (q + 1) _ s (by omega) h (by omega) (fun t h1 h2 => hk t (by omega) h2)
theorem E_same {ks ks' : List Nat} {q m s : Nat} (h : E ks q m = some s) (hk : ∀ t, q ≤ t → t < s → ks'[t]? = ks[t]?) : E ks' q m = some s := by
 have := E_shift (δ := 0) (ks' := ks') (s - q) q m s rfl h (Nat.zero_le _) (fun t h1 h2 => by rw [Nat.sub_zero]; exact hk t h1 h2)
 simpa using this
def cutK (ks : List Nat) (P j e : Nat) : List Nat := (ks.modify P (· - 1)).take j ++ ks.drop e
def off (j e q : Nat) : Nat := if q < e then q else q - (e - j)
section
variable {ks : List Nat} {P i j e : Nat}
theorem cutK_lo (hj : j ≤ ks.length) {t : Nat} (ht : t < j) (hP : t ≠ P) : (cutK ks P j e)[t]? = ks[t]? := by
 unfold cutK
 rw [List.getElem?_append_left (by simp; omega), List.getElem?_take_of_lt ht, List.getElem?_modify]
 have hne : ¬ P = t := fun h => hP h.symm
 simp [hne]
theorem cutK_P (hj : j ≤ ks.length) (hP : P < j) : (cutK ks P j e).getD P 0 = ks.getD P 0 - 1 := by
 unfold cutK
 rw [List.getD_eq_getElem?_getD, List.getElem?_append_left (by simp; omega), List.getElem?_take_of_lt hP, List.getElem?_modify, List.getD_eq_getElem?_getD]
 cases h : ks[P]? with
 | none => rw [List.getElem?_eq_none_iff] at h; omega
 | some v => simp
theorem cutK_hi (hj : j ≤ ks.length) (hje : j ≤ e) {t : Nat} (ht : e ≤ t) : (cutK ks P j e)[t - (e - j)]? = ks[t]? := by
 unfold cutK
 rw [List.getElem?_append_right (by simp; omega), List.getElem?_drop]
 congr 1
 simp
 omega
theorem E_behind (hj : j ≤ ks.length) (hje : j ≤ e) {q m s : Nat} (h : E ks q m = some s) (hq : e ≤ q) : E (cutK ks P j e) (q - (e - j)) m = some (s - (e - j)) :=
 E_shift (s - q) q m s rfl h (by omega) (fun t h1 h2 => cutK_hi hj hje (by omega))
theorem E_past (hK : Kid ks P i j) (he : E ks j 1 = some e) {m s : Nat} (h : E ks (P + 1) m = some s) (hm : i < m) : e ≤ s ∧ E (cutK ks P j e) (P + 1) (m - 1) = some (s - (e - j)) := by
 have hb := (E_bounds he).2 (by omega)
 have hPj := hK.lt
 rw [show m = i + (1 + (m - i - 1)) from by omega, E_add, hK.2.2] at h
 simp only [Option.bind_some] at h
 rw [E_add, he] at h
 simp only [Option.bind_some] at h
 have h1 := E_bounds h
 refine ⟨h1.1, ?_⟩
 rw [show m - 1 = i + (m - i - 1) from by omega, E_add, E_same (ks' := cutK ks P j e) hK.2.2 (fun t h1 h2 => cutK_lo (by omega) h2 (by omega))]
 simp only [Option.bind_some]
 have := E_behind (P := P) (j := j) (e := e) (by omega) (by omega) h (Nat.le_refl e)
 rwa [show e - (e - j) = j from by omega] at this
theorem E_over (hK : Kid ks P i j) (he : E ks j 1 = some e) : ∀ (d q m s : Nat), P - q = d → q ≤ P → P < s → E ks q m = some s → e ≤ s ∧ E (cutK ks P j e) q m = some (s - (e - j)) := by
 have hb := (E_bounds he).2 (by omega)
 have hPj := hK.lt
 have hl : (cutK ks P j e).length ≥ j := by unfold cutK; simp; omega
 intro d
 induction d with
 | zero =>
  intro q m s hd hq hs h
  obtain rfl : q = P := by omega
  have hm : 1 ≤ m := by
   rcases Nat.eq_zero_or_pos m with h0 | h0
   ·subst h0; rw [E_zero] at h; injection h with h; omega
   ·exact h0
  obtain ⟨m, rfl⟩ : ∃ k, m = k + 1 := ⟨m - 1, by omega⟩
  rw [E_step hK.1] at h
  obtain ⟨h1, h2⟩ := E_past hK he h (by have := hK.2.1; omega)
  refine ⟨h1, ?_⟩
  rw [E_step (by omega), cutK_P (by omega) hPj]
  have := hK.2.1
  rw [show ks.getD q 0 - 1 + m = ks.getD q 0 + m - 1 from by omega]
  exact h2
 | succ d ih =>
  intro q m s hd hq hs h
  have hm : 1 ≤ m := by
   rcases Nat.eq_zero_or_pos m with h0 | h0
   ·subst h0; rw [E_zero] at h; injection h with h; omega
   ·exact h0
  obtain ⟨m, rfl⟩ : ∃ k, m = k + 1 := ⟨m - 1, by omega⟩
  have hq1 : q < ks.length := by omega
  rw [E_step hq1] at h
  obtain ⟨h1, h2⟩ := ih (q + 1) _ s (by omega) (by omega) hs h
  refine ⟨h1, ?_⟩
  rw [E_step (by omega)]
  have e1 : (cutK ks P j e).getD q 0 = ks.getD q 0 := by rw [List.getD_eq_getElem?_getD, cutK_lo (by omega) (by omega) (by omega), List.getD_eq_getElem?_getD]
  rw [e1]
  exact h2
theorem E_between (hK : Kid ks P i j) {q s : Nat} (hq : P < q) (hqj : q < j) (h : E ks q 1 = some s) : s ≤ j := by
 obtain ⟨e', h1, h2⟩ := E_inside _ _ _ _ q rfl hK.2.2 (by omega) hqj
 rw [h] at h1
 injection h1 with h1
 omega
theorem E_end_cut (hK : Kid ks P i j) (he : E ks j 1 = some e) {p s : Nat} (h : E ks p 1 = some s) (hp : p < j ∨ e ≤ p) : E (cutK ks P j e) (off j e p) 1 = some (off j e s) := by
 have hb := (E_bounds he).2 (by omega)
 have hPj := hK.lt
 have hps := (E_bounds h).2 (by omega)
 unfold off
 rcases hp with hp | hp
 ·rw [if_pos (by omega)]
  rcases Nat.lt_or_ge P p with h1 | h1
  ·have h2 := E_between hK h1 hp h
   rw [if_pos (by omega)]
   exact E_same h (fun t h3 h4 => cutK_lo (by omega) (by omega) (by omega))
  ·rcases Nat.lt_or_ge P s with h2 | h2
   ·obtain ⟨h3, h4⟩ := E_over hK he _ p 1 s rfl h1 h2 h
    rw [if_neg (by omega)]
    exact h4
   ·rw [if_pos (by omega)]
    exact E_same h (fun t h3 h4 => cutK_lo (by omega) (by omega) (by omega))
 ·rw [if_neg (by omega), if_neg (by omega)]
  exact E_behind (by omega) (by omega) h hp
theorem Kid_cut (hK : Kid ks P i j) (he : E ks j 1 = some e) {p ib b : Nat} (h : Kid ks p ib b) (hp : p < j ∨ e ≤ p) (hbj : b ≠ j) : (b < j ∨ e ≤ b) ∧ Kid (cutK ks P j e) (off j e p) (if p = P ∧ i < ib then ib - 1 else ib) (off j e b) := by
 have hb := (E_bounds he).2 (by omega)
 have hPj := hK.lt
 have hpb := h.lt
 have hl1 : (cutK ks P j e).length = ks.length - (e - j) := by unfold cutK; simp; omega
 have hpl := h.1
 rcases hp with hp | hp
 ·have hoff : off j e p = p := by unfold off; rw [if_pos (by omega)]
  rw [hoff]
  rcases Nat.lt_trichotomy p P with h1 | h1 | h1
  ·
   have hg : (cutK ks P j e).getD p 0 = ks.getD p 0 := by rw [List.getD_eq_getElem?_getD, cutK_lo (by omega) (by omega) (by omega), List.getD_eq_getElem?_getD]
   rw [if_neg (by omega)]
   rcases Nat.lt_or_ge P b with h2 | h2
   ·obtain ⟨h3, h4⟩ := E_over hK he _ (p + 1) ib b rfl (by omega) h2 h.2.2
    exact ⟨.inr h3, by omega, by rw [hg]; exact h.2.1, by unfold off; rw [if_neg (by omega)]; exact h4⟩
   ·exact ⟨.inl (by omega), by omega, by rw [hg]; exact h.2.1, by unfold off; rw [if_pos (by omega)]; exact E_same h.2.2 (fun t h3 h4 => cutK_lo (by omega) (by omega) (by omega))⟩
  ·subst h1
   have hg := cutK_P (ks := ks) (e := e) (by omega) hPj
   rcases Nat.lt_trichotomy ib i with h2 | h2 | h2
   ·rw [if_neg (by omega)]
    have h3 := E_lt h.2.2 hK.2.2 h2
    have := hK.2.1
    exact ⟨.inl h3, by omega, by rw [hg]; omega, by unfold off; rw [if_pos (by omega)]; exact E_same h.2.2 (fun t h4 h5 => cutK_lo (by omega) (by omega) (by omega))⟩
   ·subst h2
    have := h.2.2
    rw [hK.2.2] at this
    injection this with this
    omega
   ·rw [if_pos ⟨rfl, h2⟩]
    obtain ⟨h3, h4⟩ := E_past hK he h.2.2 h2
    have := h.2.1
    exact ⟨.inr h3, by omega, by rw [hg]; omega, by unfold off; rw [if_neg (by omega)]; exact h4⟩
  ·have hg : (cutK ks P j e).getD p 0 = ks.getD p 0 := by rw [List.getD_eq_getElem?_getD, cutK_lo (by omega) (by omega) (by omega), List.getD_eq_getElem?_getD]
   obtain ⟨e', h2, h3⟩ := E_inside _ _ _ _ p rfl hK.2.2 (by omega) hp
   have h4 := h.end_gt h2
   rw [if_neg (by omega)]
   exact ⟨.inl (by omega), by omega, by rw [hg]; exact h.2.1, by unfold off; rw [if_pos (by omega)]; exact E_same h.2.2 (fun t h4 h5 => cutK_lo (by omega) (by omega) (by omega))⟩
 ·have hoff : off j e p = p - (e - j) := by unfold off; rw [if_neg (by omega)]
  rw [hoff, if_neg (by omega)]
  have hg : (cutK ks P j e).getD (p - (e - j)) 0 = ks.getD p 0 := by rw [List.getD_eq_getElem?_getD, cutK_hi (by omega) (by omega) hp, List.getD_eq_getElem?_getD]
  refine ⟨.inr (by omega), by omega, by rw [hg]; exact h.2.1, ?_⟩
  unfold off
  rw [if_neg (by omega)]
  have := E_behind (P := P) (j := j) (e := e) (by omega) (by omega) h.2.2 (by omega : e ≤ p + 1)
  rwa [show p + 1 - (e - j) = p - (e - j) + 1 from by omega] at this
end
end Go.Proofs.YthjgohbkpjhkeaaGreatDoor.Tr
namespace Go.Proofs.YthjgohbkpjhkeaaGreatDoor.Impl
open Go.RowKit Go.Proofs.YthjgohbkpjhkeaaGreatDoorW.PrintWords Go.Proofs.YthjgohbkpjhkeaaGreatDoorW.PrintLast Go.Proofs.YthjgohbkpjhkeaaGreatDoorW.PrintMore Go.Proofs.YthjgohbkpjhkeaaGreatDoor.PFnExactDo Go.Proofs.YthjgohbkpjhkeaaGreatDoor.MapLib Go.Proofs.YthjgohbkpjhkeaaGreatDoor.FireSpec Go.Proofs.YthjgohbkpjhkeaaGreatDoor.Tr Go.Proofs.YthjgohbkpjhkeaaGreatDoor.Fo
theorem nodup_swap {P Q K K' : List Nat} {a : Nat} {o o' : Option Nat} (h : (P ++ (a :: (o.toList ++ K) ++ Q)).Nodup) (hK : K'.Nodup) (hK2 : ∀ b ∈ K', b ∈ K ∨ b ∉ P ++ (a :: (o.toList ++ K) ++ Q)) (ho : o = o' ∨ ∃ k, o' = some k ∧ k ∉ P ++ (a :: (o.toList ++ K) ++ Q)) (hoK : ∀ k, o' = some k → k ∉ K') : (P ++ (a :: (o'.toList ++ K') ++ Q)).Nodup := by
 have h1 := List.nodup_append.1 h
 have h2 := List.nodup_append.1 h1.2.1
 have h3 := List.nodup_cons.1 h2.1
 have h4 := List.nodup_append.1 h3.2
 have inK : ∀ b, b ∈ K → b ∈ P ++ (a :: (o.toList ++ K) ++ Q) := fun b hb => by simp [hb]
 have key : ∀ b, b ∈ a :: (o'.toList ++ K') → b = a ∨ (b ∈ o.toList ∨ b ∈ K) ∨ b ∉ P ++ (a :: (o.toList ++ K) ++ Q) := fun b hb => by
  simp only [List.mem_cons, List.mem_append] at hb
  rcases hb with rfl | hb | hb
  ·exact .inl rfl
  ·rcases ho with rfl | ⟨k, rfl, hk⟩
   ·exact .inr (.inl (.inl hb))
   ·simp at hb; subst hb; exact .inr (.inr hk)
  ·rcases hK2 b hb with h | h
   ·exact .inr (.inl (.inr h))
   ·exact .inr (.inr h)
 have old : ∀ b, b ∈ a :: (o'.toList ++ K') → b ∈ P ++ (a :: (o.toList ++ K) ++ Q) → b ∈ a :: (o.toList ++ K) := fun b hb hm => by
  rcases key b hb with rfl | (h | h) | h
  ·simp
  ·simp [h]
  ·simp [h]
  ·exact absurd hm h
 refine List.nodup_append.2 ⟨h1.1, List.nodup_append.2 ⟨List.nodup_cons.2 ⟨fun hm => ?_, List.nodup_append.2 ⟨?_, hK, fun x hx y hy e => ?_⟩⟩, h2.2.1, fun x hx y hy e => ?_⟩, fun x hx y hy e => ?_⟩
 ·rcases List.mem_append.1 hm with hm | hm
  ·rcases ho with rfl | ⟨k, rfl, hk⟩
   ·exact h3.1 (by simp [hm])
   ·simp at hm; subst hm; exact hk (by simp)
  ·rcases hK2 a hm with h | h
   ·exact h3.1 (by simp [h])
   ·exact h (by simp)
 ·cases o' <;> simp
 ·subst e
  cases o' with
  | none => simp at hx
  | some k => simp at hx; subst hx; exact hoK _ rfl hy
 ·subst e
  exact h2.2.2 x (old x hx (by simp [hy])) x hy rfl
 ·subst e
  rcases List.mem_append.1 hy with hy | hy
  ·exact h1.2.2 x hx x (List.mem_append_left _ (old x hy (by simp [hx]))) rfl
  ·exact h1.2.2 x hx x (List.mem_append_right _ hy) rfl
section
variable {ns : List S95} {w0 w w' W : World} {g base : Nat} {bs : List Nat} {KV : Nat → Value} {F : Fo TW} {P i j : Nat} {y x : TW} {kf k r : Fo TW} {B : List (TW × Nat)}
theorem KidOf.taken2 (h : KidOf ns bs F P i j y kf B x k r) (hS : Stand ns w0 w base bs F) {A2 : Option Addr} {c2 : Nat} {up2 : Value} {pl2 : Int} (hK : KidAt w0 w base y.b y.n A2 c2 y.kv up2 pl2 kf i x k r) (hR : Regr w w' base y.b y.n A2 c2 y.kv up2 pl2 ((bsOf kf).eraseIdx i)) {kv' : Value} (hkv : y.kv.ownBlock = kv'.ownBlock ∨ ∃ k, kv'.ownBlock = some k ∧ w.heap.size ≤ k) {F1 : Fo TW} (hF1 : F1 = Fo.upd (fun z : TW => z.b == y.b) (fun _ => ⟨y.b, withKids y.n (len (app (ftake i kf) r)), kv'⟩) (fun _ => app (ftake i kf) r) F) :
  (foot F1).Nodup ∧ (∀ b ∈ foot F1, b ∈ foot F ∨ w.heap.size ≤ b) ∧ (∀ b ∈ tfoot x k, b ∉ foot F1 ∧ b < w.heap.size) ∧ (tfoot x k).Nodup ∧ (flat F1).map (·.1.b) = bs.take j ++ bs.drop (j + (size k + 1)) ∧ IsF w0 w' base (ptr y.b) i (.node x k .nil) := by
 obtain ⟨s1, s2, s3, s4⟩ := h.sep hS.nd
 have hlt : ∀ b ∈ foot F, b < w.heap.size := fun b hb => (hS.isF.typed F _ _ b hb).2.1
 obtain ⟨Pf, Q, hp, hu⟩ := foot_upd h.sub rfl hS.nd
 have hf1 : foot F1 = Pf ++ (tfoot ⟨y.b, withKids y.n (len (app (ftake i kf) r)), kv'⟩ (app (ftake i kf) r) ++ Q) := by rw [hF1, hu]
 have hpn := hS.nd
 rw [hp] at hpn
 have hmem : ∀ b, b ∈ Pf ++ (y.b :: (y.kv.ownBlock.toList ++ foot kf) ++ Q) ↔ b ∈ foot F := fun b => by rw [hp]; rfl
 have hkf : ∀ b ∈ foot (app (ftake i kf) r), b ∈ foot kf := fun b hb => (s2 b hb).2.2.2
 have hown : ∀ k, kv'.ownBlock = some k → k ∉ foot (app (ftake i kf) r) := fun k hk hm => by
  rcases hkv with e | ⟨k2, e, h2⟩
  ·exact (s2 k hm).2.1 (by rw [e]; exact hk)
  ·rw [hk] at e; injection e with e; have := hlt k (s2 k hm).2.2.1; omega
 have hsub : ∀ b ∈ foot F1, b ∈ foot F ∨ w.heap.size ≤ b := fun b hb => by
  rw [hf1] at hb
  simp only [tfoot, List.mem_append, List.mem_cons, Option.mem_toList] at hb
  rcases hb with hb | (hb | hb | hb) | hb
  ·exact .inl (by rw [hp]; simp [hb])
  ·exact .inl (by rw [hp]; simp [tfoot, hb])
  ·rcases hkv with e | ⟨k2, e, h2⟩
   ·exact .inl (by rw [hp]; simp [tfoot, e, hb])
   ·rw [hb] at e; injection e with e; exact .inr (by omega)
  ·exact .inl (by rw [hp]; simp [tfoot, hkf b hb])
  ·exact .inl (by rw [hp]; simp [hb])
 refine ⟨?_, hsub, fun b hb => ⟨fun hm => ?_, hlt b (s3 b hb).1⟩, s4, ?_, ?_⟩
 ·rw [hf1]
  refine nodup_swap hpn s1 (fun b hb => .inl (hkf b hb)) ?_ hown
  rcases hkv with e | ⟨k2, e, h2⟩
  ·exact .inl e
  ·exact .inr ⟨k2, e, fun hm => by have := hlt k2 ((hmem k2).1 hm); omega⟩
 ·obtain ⟨t1, t2, t3, t4⟩ := s3 b hb
  have hbl := hlt b t1
  rw [hf1] at hm
  have hbkf : b ∈ foot kf := by
   rw [foot_drop i kf, h.dr]
   simp only [tfoot, List.mem_cons, List.mem_append] at hb
   rcases hb with rfl | hb | hb <;> simp [foot, *]
  have n1 := List.nodup_append.1 hpn
  have n2 := List.nodup_append.1 n1.2.1
  have hbt : b ∈ tfoot y kf := by simp [tfoot, hbkf]
  simp only [tfoot, List.mem_append, List.mem_cons, Option.mem_toList] at hm
  rcases hm with hm | (hm | hm | hm) | hm
  ·exact n1.2.2 b hm b (by simp [hbt]) rfl
  ·exact t2 hm
  ·rcases hkv with e | ⟨k2, e, h2⟩
   ·exact t3 (by rw [e]; exact hm)
   ·rw [hm] at e; injection e with e; omega
  ·exact t4 hm
  ·exact n2.2.2 b hbt b hm rfl
 ·have hfl := h.up (fun _ => ⟨y.b, withKids y.n (len (app (ftake i kf) r)), kv'⟩) (fun _ => app (ftake i kf) r)
  rw [hF1, hfl, flat_app]
  have hkfl : flat kf = flat (ftake i kf) ++ (((x, len k) :: flat k) ++ flat r) := by
   have e := congrArg flat (take_drop i kf)
   rw [flat_app, h.dr] at e
   simpa [flat] using e.symm
  have hPl : ((flat F).take P).length = P := by have := (List.getElem?_eq_some_iff.1 h.at_).1; rw [List.length_take]; omega
  have e1 : flat F = ((flat F).take P ++ [(y, len kf)] ++ flat (ftake i kf)) ++ (((x, len k) :: flat k) ++ (flat r ++ B)) := by
   conv => lhs; rw [h.fl, hkfl]
   simp
  have l1 : ((flat F).take P ++ [(y, len kf)] ++ flat (ftake i kf)).length = j := by rw [List.length_append, List.length_append, hPl, List.length_singleton, size_flat]; have := h.jat; omega
  have l2 : (((x, len k) :: flat k)).length = size k + 1 := by rw [List.length_cons, size_flat]
  have e2 := congrArg (List.map (fun z : TW × Nat => z.1.b)) e1
  rw [hS.bsE] at e2
  obtain ⟨A0, hA0⟩ : ∃ A0, A0 = (flat F).take P ++ [(y, len kf)] ++ flat (ftake i kf) := ⟨_, rfl⟩
  obtain ⟨T0, hT0⟩ : ∃ T0, T0 = (x, len k) :: flat k := ⟨_, rfl⟩
  rw [← hA0, ← hT0, List.map_append, List.map_append (l₁ := T0)] at e2
  rw [← hA0] at l1
  rw [← hT0] at l2
  have e3 : bs.take j = A0.map (fun z : TW × Nat => z.1.b) := by rw [e2, List.take_left' (by simpa using l1)]
  have e4 : bs.drop (j + (size k + 1)) = (flat r ++ B).map (fun z : TW × Nat => z.1.b) := by rw [e2, ← List.append_assoc, List.drop_left' (by simp [l1, l2])]
  rw [e3, e4, hA0]
  simp
 ·refine IsF.keep (.node x k .nil) _ _ hK.own (fun b hb => ?_)
  have hb' : b ∈ tfoot x k := by simpa [foot, tfoot] using hb
  obtain ⟨t1, t2, t3, t4⟩ := s3 b hb'
  refine hR.kept.2 b (hlt b t1) ?_
  rintro (e | e | e)
  ·exact t2 e
  ·exact t3 e
  ·rw [← h.bsOf1] at e
   exact t4 (bsOf_foot _ b e)
end
structure Spot (out : List S95) (F1 : Fo TW) (p' kpos : Nat) (t : TW) (tkf : Fo TW) (Bt : List (TW × Nat)) (i2 : Nat) : Prop where
 sub : Sub F1 t tkf
 fl : flat F1 = (flat F1).take p' ++ (t, len tkf) :: (flat tkf ++ Bt)
 up : ∀ (x' : TW → TW) (g : Fo TW → Fo TW), flat (Fo.upd (fun z => z.b == t.b) x' g F1) = (flat F1).take p' ++ (x' t, len (g tkf)) :: (flat (g tkf) ++ Bt)
 le : i2 ≤ len tkf
 pos : p' + 1 + size (ftake i2 tkf) = kpos
 pl : p' < (flat F1).length
section
variable {out : List S95} {w0 w8 w9 w' : World} {base : Nat} {bs1 : List Nat} {F1 : Fo TW} {p' kpos i2 : Nat} {t x : TW} {tkf k : Fo TW} {Bt : List (TW × Nat)}
theorem Stand.below (h : Stand out w0 w8 base bs1 F1) (hb : Below w8.heap.size w8 w9) : Stand out w0 w9 base bs1 F1 := ⟨h.isF.below hb, h.nd, h.nsE, h.bsE, h.root⟩
theorem Stand.lift (h : Stand out w0 w8 base bs1 F1) (hb : Below w0.heap.size w0 w') : Stand out w' w8 base bs1 F1 := ⟨IsF.lift F1 _ _ hb h.isF, h.nd, h.nsE, h.bsE, h.root⟩
theorem bsOf_put (f : Fo TW) (i : Nat) : bsOf (app (ftake i f) (.node x k (fdrop i f))) = (bsOf f).take i ++ x.b :: (bsOf f).drop i := by
 rw [bsOf_app, bsOf_take]
 show _ ++ x.b :: bsOf (fdrop i f) = _
 rw [bsOf_drop]
theorem Spot.given (h : Spot out F1 p' kpos t tkf Bt i2) (hS : Stand out w0 w8 base bs1 F1) (hx : ∃ up i, IsF w0 w8 base up i (.node x k .nil)) (hxd : ∀ b ∈ tfoot x k, b ∉ foot F1 ∧ b < w8.heap.size) (hxn : (tfoot x k).Nodup) {A : Option Addr} {c : Nat} {up : Value} {pl : Int} (hT : TwigB w8 t.b t.n A c t.kv up pl)
  (hR : Regr w8 w9 base t.b t.n A c t.kv up pl ((bsOf tkf).take i2 ++ x.b :: (bsOf tkf).drop i2)) : ∃ x2 k2, x2.b = bs1.getD 0 0 ∧ IsF w0 w9 base (.pointer none) 0 (.node x2 k2 .nil) ∧ nodesOf (.node x2 k2 .nil) = putN out p' kpos (nodesOf (.node x k .nil)) := by
 have hlt : ∀ b ∈ foot F1, b < w8.heap.size := fun b hb => (hS.isF.typed F1 _ _ b hb).2.1
 have hnd := hS.nd
 obtain ⟨Pf, Q, hp, _⟩ := foot_upd h.sub rfl hnd
 have hsub := sub_foot h.sub
 rw [hp] at hnd
 have h8 := (List.nodup_append.1 (List.nodup_append.1 hnd).2.1).1
 simp only [tfoot, List.nodup_cons] at h8
 have h9 := List.nodup_append.1 h8.2
 have e1 := foot_drop i2 tkf
 have e2 : foot (app (ftake i2 tkf) (.node x k (fdrop i2 tkf))) = foot (ftake i2 tkf) ++ (tfoot x k ++ foot (fdrop i2 tkf)) := by
  rw [foot_app]; simp [foot, tfoot]
 have h10 := h9.2.1
 rw [e1] at h10
 have h11 := List.nodup_append.1 h10
 have far : ∀ b, b ∈ foot tkf → b ≠ t.b ∧ t.kv.ownBlock ≠ some b ∧ b ∈ foot F1 := fun b hb =>
  ⟨fun e => h8.1 (by rw [← e]; simp [hb]), fun e => h9.2.2 b (by simp [e]) b hb rfl, hsub b (by simp [tfoot, hb])⟩
 have htb : t.b ∈ foot F1 := hsub _ (by simp [tfoot])
 have hto : ∀ b, t.kv.ownBlock = some b → b ∈ foot F1 := fun b hb => hsub b (by simp [tfoot, hb])
 have mem : ∀ b, b ∈ foot (app (ftake i2 tkf) (.node x k (fdrop i2 tkf))) ↔ b ∈ tfoot x k ∨ b ∈ foot tkf := fun b => by
  rw [e2, e1]
  simp only [List.mem_append]
  constructor
  ·rintro (h | h | h) <;> simp [h]
  ·rintro (h | h | h) <;> simp [h]
 have hTr : Trees w0 w8 base (app (ftake i2 tkf) (.node x k (fdrop i2 tkf))) := by
  obtain ⟨_, _, _, h6⟩ := IsF.sub h.sub _ _ hS.isF
  have ht := IsF.trees tkf _ _ h6
  exact Trees.app _ _ (ht.take i2) ⟨hx, ht.drop i2⟩
 obtain ⟨kv', _, e4⟩ := regr_upd (F := F1) (kf := tkf) (kf' := app (ftake i2 tkf) (.node x k (fdrop i2 tkf))) (y := t) hS.nd h.sub rfl hT (by rw [bsOf_put]; exact hR) hTr (by
   rw [e2]
   refine List.nodup_append.2 ⟨h11.1, List.nodup_append.2 ⟨hxn, h11.2.1, fun a ha b hb e => ?_⟩, fun a ha b hb e => ?_⟩
   ·subst e; exact (hxd a ha).1 (far a (by rw [e1]; simp [hb])).2.2
   ·subst e
    rcases List.mem_append.1 hb with hb | hb
    ·exact (hxd a hb).1 (far a (by rw [e1]; simp [ha])).2.2
    ·exact h11.2.2 a ha a hb rfl) (fun b hb => by
   rcases (mem b).1 hb with hb | hb
   ·exact ⟨fun e => (hxd b hb).1 (e ▸ htb), fun e => (hxd b hb).1 (hto b e), (hxd b hb).2⟩
   ·exact ⟨(far b hb).1, (far b hb).2.1, hlt b (far b hb).2.2⟩) (fun b hb hF => by
   have hb' := bsOf_foot _ b hb
   rcases (mem b).1 hb' with hb' | hb'
   ·exact absurd hF (hxd b hb').1
   ·simp [tfoot, hb']) hlt
 obtain ⟨x0, k0, hF, hx0⟩ := hS.root
 obtain ⟨x2, k2, he, hx2⟩ := root_upd (x := x0) (k := k0) t.b (withKids t.n (len (app (ftake i2 tkf) (.node x k (fdrop i2 tkf))))) kv' (fun _ => app (ftake i2 tkf) (.node x k (fdrop i2 tkf)))
 rw [← hF] at he
 refine ⟨x2, k2, by rw [hx2, hx0], by rw [← he]; exact e4 _ _ hS.isF, ?_⟩
 have hm : kid t.n = len tkf := by
  obtain ⟨_, _, h6, _⟩ := IsF.sub h.sub _ _ hS.isF
  unfold kid
  rw [h6.2.2.1]
  simp
 have hc := nodes_put (x := x) (k := k) h.fl hm h.le h.pl (h.up (fun _ => ⟨t.b, withKids t.n (len (app (ftake i2 tkf) (.node x k (fdrop i2 tkf)))), kv'⟩) (fun _ => app (ftake i2 tkf) (.node x k (fdrop i2 tkf))))
 rw [hS.nsE, h.pos, he] at hc
 exact hc
theorem IsF.setZ {f : Fo TW} {up : Value} {i z : Nat} (h : IsF w0 w9 base up i f) (hZ : SetZ w9 w' z) : IsF w0 w' base up i f :=
 h.keep f up i (fun k hk => hZ.far k (fun e => by
  obtain ⟨_, _, cs, t, h1, h2⟩ := h.typed f up i k hk
  obtain ⟨cs', h3⟩ := hZ.typed
  rw [e, h3] at h1
  injection h1 with h1
  injection h1 with _ h1
  rcases h2 with h2 | h2 <;> rw [h2] at h1 <;> exact absurd h1 (by decide)))
end
section
variable {out : List S95} {w0 w w9 w' : World} {base : Nat} {bs1 : List Nat} {F1 : Fo TW} {p' kpos i2 : Nat} {t x : TW} {tkf k : Fo TW} {Bt : List (TW × Nat)}
theorem Stand.spotEnd (hS : Stand out w0 w base bs1 F1) (hp : p' < out.length) : ∃ t tkf Bt, Spot out F1 p' (endOf out p') t tkf Bt (len tkf) ∧ t.b = bs1.getD p' 0 ∧ E (kids out) p' 1 = some (endOf out p') := by
 obtain ⟨y, m, hy, hyb, hyn, hym⟩ := hS.at_ hp
 obtain ⟨kf, B, hs, rfl, hfl, hup⟩ := flat_at hS.nd hy
 have hPl : ((flat F1).take p').length = p' := by have := (List.getElem?_eq_some_iff.1 hy).1; rw [List.length_take]; omega
 have hks : kids out = Fo.ks (flat F1) := by rw [← hS.nsE]; exact kids_flat F1 _ _ hS.isF
 have f2 : flat F1 = (flat F1).take p' ++ (flat (.node y kf .nil) ++ B) := by
  conv => lhs; rw [hfl]
  simp [flat]
 have e2 := E_mid (p := p') (hks.trans (congrArg Fo.ks f2)) hPl.symm
 have hs1 : size (Fo.node y kf .nil) = size kf + 1 := by simp [size]
 rw [hs1] at e2
 have he : endOf out p' = p' + (size kf + 1) := by
  unfold endOf
  rw [show E (kids out) p' 1 = some (p' + (size kf + 1)) from e2]
  rfl
 refine ⟨y, kf, B, ⟨hs, hfl, hup, Nat.le_refl _, ?_, (List.getElem?_eq_some_iff.1 hy).1⟩, hyb, by rw [he]; exact e2⟩
 rw [take_all, he]
 omega
theorem Stand.spotKid (hS : Stand out w0 w base bs1 F1) {b' : Nat} (hK : Kid (kids out) p' i2 b') : ∃ t tkf Bt xq kq, Spot out F1 p' b' t tkf Bt i2 ∧ i2 < len tkf ∧ t.b = bs1.getD p' 0 ∧ xq.b = bs1.getD b' 0 ∧ IsF w0 w base (ptr t.b) i2 (.node xq kq .nil) := by
 obtain ⟨y, kf, B, x, k, r, h⟩ := hS.kid hK
 refine ⟨y, kf, B, x, k, ⟨h.sub, h.fl, h.up, Nat.le_of_lt h.lt, h.jat, (List.getElem?_eq_some_iff.1 h.at_).1⟩, h.lt, h.yb, h.xb, ?_⟩
 obtain ⟨_, _, _, h6⟩ := IsF.sub h.sub _ _ hS.isF
 have := h6.drop i2 kf _ _
 rw [h.dr, Nat.zero_add] at this
 exact ⟨this.1, this.2.1, trivial⟩
theorem Spot.to (h : Spot out F1 p' kpos t tkf Bt i2) (hS : Stand out w0 w base bs1 F1) (hbw : base ≤ w.heap.size) (hln : out.length ≤ 100000000) {bv : Value} (hbv : Ahead w bv i2 (len tkf)) : ∃ A c up pl, GiveTo w base t.b i2 bv t.n A c t.kv up pl (bsOf tkf) := by
 obtain ⟨up, iy, ⟨⟨A, c, h1, h2⟩, h3, h4, h5⟩, h6⟩ := IsF.sub h.sub _ _ hS.isF
 have hnd := hS.nd
 obtain ⟨Pf, Q, hp, _⟩ := foot_upd h.sub rfl hnd
 rw [hp] at hnd
 have h8 := (List.nodup_append.1 (List.nodup_append.1 hnd).2.1).1
 simp only [tfoot, List.nodup_cons] at h8
 have h9 := (List.nodup_append.1 h8.2).2.1
 have bsf : ∀ f : Fo TW, (bsOf f).Sublist (foot f) := by
  intro f
  induction f with
  | nil => simp [bsOf, tops, foot]
  | node x k r _ ih =>
   simp only [bsOf, tops, foot, List.map_cons]
   exact List.Sublist.cons_cons _ (ih.trans ((List.sublist_append_right _ _).trans (List.sublist_append_right _ _)))
 have hsz : len tkf ≤ out.length := by
  have e := congrArg List.length h.fl
  have h7 : (flat F1).length = out.length := by rw [← hS.nsE]; simp [nodesOf]
  rw [List.length_append, List.length_cons, List.length_append] at e
  have := size_flat tkf
  have := len_size' tkf
  omega
 have typed : ∀ (f : Fo TW) (up : Value) (i : Nat), IsF w0 w base up i f → ∀ b ∈ bsOf f, ∃ n A c kv up pl, TwigB w b n A c kv up pl := by
  intro f
  induction f with
  | nil => intro up i _ b hb; simp [bsOf, tops] at hb
  | node x k r _ ih =>
   intro up i h b hb
   simp only [bsOf, tops, List.map_cons, List.mem_cons] at hb
   rcases hb with rfl | hb
   ·obtain ⟨A, c, _, ht⟩ := h.1.1
    exact ⟨_, _, _, _, _, _, ht⟩
   ·exact ih _ _ h.2.2 b hb
 refine ⟨A, c, up, _, ⟨h2, h5, by rw [bsOf_length]; exact h.le, by rw [bsOf_length]; exact hbv, typed tkf _ _ h6, h9.sublist (bsf tkf), fun hm => h8.1 (by simp [bsOf_foot tkf _ hm]), by rw [bsOf_length]; omega, h3, fun b hb => (h6.typed tkf _ _ b (bsOf_foot tkf b hb)).1, hbw⟩⟩
theorem GiveTo.old {tb kb i : Nat} {bv : Value} {n : S95} {A : Option Addr} {c : Nat} {kv up : Value} {pl : Int} {bs : List Nat} (h : GiveTo w base tb i bv n A c kv up pl bs) (ht : ∃ n A c kv up pl, TwigB w kb n A c kv up pl) (h1 : kb ≠ tb) (h2 : kb ∉ bs) (h3 : base ≤ kb) : GiveAt w base tb kb i bv n A c kv up pl bs := by
 refine ⟨h.x, h.row, h.le, h.bef, fun k hk => ?_, List.nodup_cons.2 ⟨h2, h.nd⟩, fun hm => ?_, h.len, h.bb, fun k hk => ?_, h.sz⟩
 ·rcases List.mem_cons.1 hk with rfl | hk
  ·exact ht
  ·exact h.kids k hk
 ·rcases List.mem_cons.1 hm with e | hm
  ·exact h1 e.symm
  ·exact h.nb hm
 ·rcases List.mem_cons.1 hk with rfl | hk
  ·exact h3
  ·exact h.lo k hk
end
section
variable {ns : List S95} {P j e : Nat}
theorem map_modify' {α β : Type} (f : α → α) (g : α → β) (f' : β → β) (h : ∀ a, g (f a) = f' (g a)) : ∀ (l : List α) (P : Nat), (l.modify P f).map g = (l.map g).modify P f'
 | [], P => by simp
 | a :: l, 0 => by simp [h]
 | a :: l, P + 1 => by simp [map_modify' f g f' h l P]
theorem kids_cutN : kids (cutN ns P j e) = cutK (kids ns) P j e := by
 unfold kids cutN cutK
 rw [List.map_append, List.map_take, List.map_drop, map_modify' _ kid (· - 1) (fun a => kid_withKids a _)]
theorem modify_id {α : Type} (l : List α) (P : Nat) : l.modify P (fun a => a) = l := by
 induction l generalizing P with
 | nil => simp
 | cons a l ih =>
  cases P with
  | zero => rfl
  | succ P => simp [ih]
theorem f0_cutN : (cutN ns P j e).map (·.f0) = (ns.map (·.f0)).take j ++ (ns.map (·.f0)).drop e := by
 unfold cutN
 have h := map_modify' (fun n : S95 => withKids n (kid n - 1)) (fun n : S95 => n.f0) (fun a => a) (fun a => rfl) ns P
 rw [modify_id] at h
 rw [List.map_append, List.map_take, List.map_drop, h]
theorem place_of {id : Int} {q : Nat} (hnd : (ns.map (·.f0)).Nodup) (h : (ns.map (·.f0))[q]? = some id) : place ns id = some q := by
 have hq := (List.getElem?_eq_some_iff.1 h).1
 cases hp : place ns id with
 | none => exact absurd (List.mem_of_getElem? h) (place_none hp)
 | some q' =>
  obtain ⟨h1, h2⟩ := place_some hp
  have e : (ns.map (·.f0))[q']'(by simpa using h1) = (ns.map (·.f0))[q] := by
   rw [(List.getElem?_eq_some_iff.1 h).2]
   rw [List.getElem_map, ← h2, getD_of h1]
  rw [(List.getElem_inj hnd).1 e]
theorem off_get {α : Type} {l : List α} {q : Nat} (hj : j ≤ e) (he : e ≤ l.length) (hq : q < j ∨ e ≤ q) : (l.take j ++ l.drop e)[off j e q]? = l[q]? := by
 unfold off
 rcases hq with hq | hq
 ·rw [if_pos (by omega), List.getElem?_append_left (by simp; omega), List.getElem?_take_of_lt hq]
 ·rw [if_neg (by omega), List.getElem?_append_right (by simp; omega), List.getElem?_drop]
  congr 1
  simp
  omega
theorem place_cut {id : Int} {q : Nat} (hnd : (ns.map (·.f0)).Nodup) (hj : j ≤ e) (he : e ≤ ns.length) (h : place ns id = some q) (hq : q < j ∨ e ≤ q) : place (cutN ns P j e) id = some (off j e q) := by
 obtain ⟨h1, h2⟩ := place_some h
 have hnd' : ((cutN ns P j e).map (·.f0)).Nodup := by
  rw [f0_cutN]
  refine hnd.sublist ?_
  have h3 : (ns.map (·.f0)).take j ++ (ns.map (·.f0)).drop j = ns.map (·.f0) := List.take_append_drop _ _
  conv => rhs; rw [← h3]
  refine List.Sublist.append (List.Sublist.refl _) ?_
  rw [show e = j + (e - j) from by omega, ← List.drop_drop]
  exact List.drop_sublist _ _
 refine place_of hnd' ?_
 rw [f0_cutN, off_get hj (by simpa using he) hq, List.getElem?_map, List.getElem?_eq_getElem h1]
 rw [getD_of h1] at h2
 simp [h2]
end
def cutOf (ns : List S95) (j : Nat) : List S95 := cutN ns (parN ns j) j (endOf ns j)
def goalPos (ns : List S95) (C : Chg) (p : Nat) : Nat := if C.f3 = -1 then endOf ns p else (place ns C.f3).getD 0
def outM (ns : List S95) (C : Chg) (j : Nat) : Out :=
 (⟨3, C.f1, (ns.getD (parN ns j) z95).f0, nextN ns (parN ns j) (endOf ns j), ⟨#[]⟩, ⟨#[]⟩, 0, []⟩, putN (cutOf ns j) ((place (cutOf ns j) C.f2).getD 0) (goalPos (cutOf ns j) C ((place (cutOf ns j) C.f2).getD 0)) ((ns.take (endOf ns j)).drop j))
def outI (ns : List S95) (C : Chg) : Out :=
 (⟨2, (C.f7.getD 0 z95).f0, 0, 0, ⟨#[]⟩, ⟨#[]⟩, 0, []⟩, putN ns ((place ns C.f2).getD 0) (goalPos ns C ((place ns C.f2).getD 0)) C.f7)
section
variable {ns : List S95} {w0 w w' W : World} {g base : Nat} {bs : List Nat} {KV : Nat → Value} {F : Fo TW} {P i j : Nat} {y x : TW} {kf k r : Fo TW} {B : List (TW × Nat)}
theorem getD_off {l : List Nat} {j e q : Nat} (hj : j ≤ e) (he : e ≤ l.length) (hq : q < j ∨ e ≤ q) : (l.take j ++ l.drop e).getD (off j e q) 0 = l.getD q 0 := by
 rw [List.getD_eq_getElem?_getD, off_get hj he hq, List.getD_eq_getElem?_getD]
theorem move_end (h : Plot ns w0 w g base bs KV) (C : Chg) (A : Option Addr) (c : Nat) (hp : place ns C.f1 = some j) (hj0 : j ≠ 0) (p : Nat) (hp2 : place ns C.f2 = some p) (hpo : p < j ∨ endOf ns j ≤ p) (hbf : C.f3 = -1 ∨ (C.f3 ≠ -1 ∧ ∃ b, place ns C.f3 = some b ∧ parOf (kids ns) b = some p ∧ b ≠ j)) :
  Calls Tryz.prog 165 #[chv C A c, .pointer (some ⟨g, 0, none⟩)] w (DoEnd w g base (bs.getD 0 0) (outM ns C j).1 (outM ns C j).2) := by
 have hj := (place_some hp).1
 obtain ⟨P, i, hKid⟩ := parOf_in (j := j) (by rw [show (kids ns).length = ns.length by simp [kids]]; exact h.he) (by omega) (by simpa [kids] using hj)
 have hS := h.stand
 obtain ⟨y, kf, B, x, k, r, hk⟩ := hS.kid hKid
 obtain ⟨A2, c2, up2, pl2, ha2, hK⟩ := hk.at2 hS h.b0 h.bw h.ln
 have hpar : parN ns j = P := by unfold parN; rw [parOf_of hKid]; rfl
 have hend : endOf ns j = j + (size k + 1) := by unfold endOf; rw [hk.end_]; rfl
 obtain ⟨e, he⟩ : ∃ e, e = j + (size k + 1) := ⟨_, rfl⟩
 have hE : E (kids ns) j 1 = some e := by rw [he]; exact hk.end_
 have hel : e ≤ ns.length := by have := ((E_bounds hE).2 (by omega)).2; simpa [kids] using this
 have hco : cutOf ns j = cutN ns P j e := by unfold cutOf; rw [hpar, hend, he]
 obtain ⟨out, hout⟩ : ∃ out, out = cutN ns P j e := ⟨_, rfl⟩
 rw [hend, ← he] at hpo
 have hp1 : place out C.f2 = some (off j e p) := by rw [hout]; exact place_cut h.nd (by omega) hel hp2 hpo
 have hbl := h.bl
 have htb : lkv ns bs C.f2 = .pointer (some ⟨bs.getD p 0, 0, none⟩) := by unfold lkv; rw [hp2]; rfl
 have hout1 : outM ns C j = (⟨3, C.f1, y.n.f0, nextId r, ⟨#[]⟩, ⟨#[]⟩, 0, []⟩, putN out (off j e p) (goalPos out C (off j e p)) (nodesOf (.node x k .nil))) := by
  unfold outM
  rw [hco, ← hout, hp1, Option.getD_some, hpar, hend, hk.yn, hk.next, hk.own]
 rw [hout1]
 refine (move_do w0 w g ns bs C A c h.gm h.bl h.nd j hp base y.b y.n A2 c2 y.kv up2 pl2 kf i x k r hK hk.xb (bs.getD p 0) htb
  (fun w6 w7 n3 A3 c3 kv3 up3 pl3 tl i2 => ∃ bs1 F1 t tkf Bt, Stand out w0 w7 base bs1 F1 ∧ bs1.getD 0 0 = bs.getD 0 0 ∧ Spot out F1 (off j e p) (goalPos out C (off j e p)) t tkf Bt i2 ∧ t.b = bs.getD p 0 ∧ t.n = n3 ∧ t.kv = kv3 ∧ bsOf tkf = tl ∧ IsF w0 w7 base (ptr y.b) i (.node x k .nil) ∧ (∀ b ∈ tfoot x k, b ∉ foot F1 ∧ b < w7.heap.size) ∧ (tfoot x k).Nodup)
  (fun w6 w7 hb6 hr7 => ?_)).mono (fun en w' hd => ?_)
 ·have hS6 := hS.below hb6
  have hK6 := hK.below hb6
  obtain ⟨kv', x1, k1, F1, hF1, hx1, hkv, hup, hI, hn⟩ := hk.taken hS6 hK6 hr7
  obtain ⟨n1, n2, n3, n4, n5, n6⟩ := hk.taken2 hS6 hK6 hr7 hkv hup
  rw [← he] at n5 hn
  rw [← hout] at hn
  have hroot : (bs.take j ++ bs.drop e).getD 0 0 = bs.getD 0 0 := by
   have := getD_off (l := bs) (j := j) (e := e) (q := 0) (by omega) (by omega) (.inl (by omega))
   unfold off at this
   rwa [if_pos (by omega)] at this
  have hS1 : Stand out w0 w7 base (bs.take j ++ bs.drop e) F1 := ⟨hI, n1, hn, n5, x1, k1, hF1, by rw [hroot]; exact hx1⟩
  have hpl := (place_some hp1).1
  have hsz7 : w.heap.size ≤ w7.heap.size := Nat.le_trans hb6.size hr7.kept.1
  have hbw : base ≤ w7.heap.size := Nat.le_trans h.bw hsz7
  have hol : out.length ≤ 100000000 := by
   have h1 : out.length ≤ ns.length := by rw [hout]; unfold cutN; simp; omega
   have := h.ln
   omega
  have fin : ∀ (t : TW) (tkf : Fo TW) (Bt : List (TW × Nat)) (i2 : Nat), Spot out F1 (off j e p) (goalPos out C (off j e p)) t tkf Bt i2 → t.b = (bs.take j ++ bs.drop e).getD (off j e p) 0 → Ahead w7 (if C.f3 = -1 then .pointer none else lkv ns bs C.f3) i2 (len tkf) →
    ∃ n3 A3 c3 kv3 up3 pl3 tl i2, (∃ bs1 F1 t tkf Bt, Stand out w0 w7 base bs1 F1 ∧ bs1.getD 0 0 = bs.getD 0 0 ∧ Spot out F1 (off j e p) (goalPos out C (off j e p)) t tkf Bt i2 ∧ t.b = bs.getD p 0 ∧ t.n = n3 ∧ t.kv = kv3 ∧ bsOf tkf = tl ∧ IsF w0 w7 base (ptr y.b) i (.node x k .nil) ∧ (∀ b ∈ tfoot x k, b ∉ foot F1 ∧ b < w7.heap.size) ∧ (tfoot x k).Nodup) ∧ GiveAt w7 base (bs.getD p 0) x.b i2 (if C.f3 = -1 then .pointer none else lkv ns bs C.f3) n3 A3 c3 kv3 up3 pl3 tl := by
   intro t tkf Bt i2 hsp htb2 hah
   rw [getD_off (by omega) (by omega) hpo] at htb2
   obtain ⟨A3, c3, up3, pl3, hg⟩ := hsp.to hS1 hbw hol hah
   have hxm := n3 x.b (by simp [tfoot])
   have hsub := sub_foot hsp.sub
   refine ⟨t.n, A3, c3, t.kv, up3, pl3, bsOf tkf, i2, ⟨_, F1, t, tkf, Bt, hS1, hroot, hsp, htb2, rfl, rfl, rfl, n6, fun b hb => ⟨(n3 b hb).1, Nat.lt_of_lt_of_le (n3 b hb).2 hr7.kept.1⟩, n4⟩, ?_⟩
   rw [← htb2]
   obtain ⟨Ax, cx, _, hxt⟩ := n6.1.1
   exact hg.old ⟨_, _, _, _, _, _, hxt⟩ (fun e => hxm.1 (by rw [e]; exact hsub _ (by simp [tfoot]))) (fun hm => hxm.1 (hsub _ (by simp [tfoot, bsOf_foot tkf _ hm]))) n6.1.2.1
  rcases hbf with hf | ⟨hf, b, hb1, hb2, hb3⟩
  ·obtain ⟨t, tkf, Bt, hsp, h1, h2⟩ := hS1.spotEnd hpl
   refine fin t tkf Bt _ (by unfold goalPos; rw [if_pos hf]; exact hsp) h1 ?_
   rw [if_pos hf]
   exact .inl ⟨rfl, rfl⟩
  ·obtain ⟨ib, hKb⟩ := parOf_some hb2
   obtain ⟨hbo, hKc⟩ := Kid_cut hKid hE hKb hpo hb3
   rw [← kids_cutN, ← hout] at hKc
   obtain ⟨t, tkf, Bt, xq, kq, hsp, hlt, h1, h2, h3⟩ := hS1.spotKid hKc
   have hb1' : place out C.f3 = some (off j e b) := by rw [hout]; exact place_cut h.nd (by omega) hel hb1 hbo
   refine fin t tkf Bt _ (by unfold goalPos; rw [if_neg hf, hb1', Option.getD_some]; exact hsp) h1 ?_
   rw [if_neg hf]
   obtain ⟨Aq, cq, _, hq⟩ := h3.1.1
   refine .inr ⟨xq.b, _, _, _, _, _, ?_, hq⟩
   unfold lkv
   rw [hb1, h2, getD_off (by omega) (by omega) hbo]
 ·obtain ⟨he1, w6, w7, w8, w9, n3, A3, c3, kv3, up3, pl3, tl, i2, hb6, hr7, ⟨bs1, F1, t, tkf, Bt, q1, q2, q3, q4, rfl, rfl, rfl, q5, q6, q7⟩, hb8, hgv, hr9, hz⟩ := hd
  have hK6 := hK.below hb6
  have hrow9 := hgv.row
  obtain ⟨x2, k2, hx2, hI2, hn2⟩ := q3.given (q1.below hb8) ⟨_, _, q5.below hb8⟩ (fun b hb => ⟨(q6 b hb).1, Nat.lt_of_lt_of_le (q6 b hb).2 hb8.size⟩) q7 (by rw [q4]; exact hgv.x) (by rw [q4]; exact hr9)
  have hsz : w.heap.size ≤ w6.heap.size ∧ w6.heap.size ≤ w7.heap.size ∧ w7.heap.size ≤ w8.heap.size := ⟨hb6.size, hr7.kept.1, hb8.size⟩
  have hBB : ∀ B, B ≤ base → Below B w w' := fun B hB => by
   have hbw := h.bw
   exact hz.below _ _ (((((hb6.mono (by omega)).trans (hr7.below B hB)).trans (hb8.mono (by omega)))).trans (hr9.below B hB)) (by omega)
  have hB : Below w0.heap.size w0 w' := h.b0.trans (h.be ▸ hBB base (Nat.le_refl _))
  refine ⟨none, 0, x2, k2, he1, Kd.S_nil _ _ _ _ _, ?_, by rw [hx2, q2], IsF.lift _ _ _ hB (hI2.setZ hz), hn2, hBB⟩
  obtain ⟨mb, hm, _⟩ := h.gm
  have m7 := hr7.other hK6.par ⟨_, hK6.row⟩ (fun k hk => hK6.typed k (List.mem_of_mem_eraseIdx hk)) (blk_below hm hb6) (by decide) (by decide)
  have m9 := hr9.other hgv.x ⟨_, hgv.row⟩ hgv.mid (blk_below m7 hb8) (by decide) (by decide)
  refine blk_cell ((hz.far g (fun e => ?_)).trans m9) 0
  obtain ⟨cs, hcs⟩ := hz.typed
  rw [← e, m9] at hcs
  injection hcs with hcs
  injection hcs with _ hcs
  exact absurd hcs (by decide)
end
end Go.Proofs.YthjgohbkpjhkeaaGreatDoor.Impl
