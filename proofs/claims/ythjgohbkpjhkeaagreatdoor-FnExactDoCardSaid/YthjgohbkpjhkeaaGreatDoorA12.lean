/- Part 12 of the proof: DoPars, DoKids. -/
import Derived.Test.YthjgohbkpjhkeaaGreatDoorA1
import Derived.Test.YthjgohbkpjhkeaaGreatDoorA4
import Derived.Test.YthjgohbkpjhkeaaGreatDoorA2
set_option linter.unusedVariables false
set_option linter.unusedSimpArgs false
set_option maxHeartbeats 8000000
set_option maxRecDepth 100000
namespace Go.Proofs.YthjgohbkpjhkeaaGreatDoor.FireSpec
open Go.RowKit Go.Proofs.YthjgohbkpjhkeaaGreatDoorW.PrintWords Go.Proofs.YthjgohbkpjhkeaaGreatDoor.PFnExactDo Go.Proofs.YthjgohbkpjhkeaaGreatDoor.Tr
def bump : List (Nat × Nat) → List (Nat × Nat)
 | [] => []
 | (P, i) :: r => (P, i + 1) :: r
def outAt (out : List Int) (j : Nat) : List (Nat × Nat) → List Int
 | [] => out.set j (-1)
 | (P, _) :: _ => (out.set j (-1)).set j (P : Int)
structure PInv (ns : List S95) (kq j : Nat) (out : List Int) (F : List (Nat × Nat)) : Prop where
 n : j + kq = ns.length + 1
 le : j ≤ ns.length
 ol : out.length = ns.length
 op : Open (kids ns) F j
 hd : ∀ f r, F = f :: r → 0 < leftOf (kids ns) f
 nil : F = [] → j = 0 ∨ j = ns.length
 z : j = 0 → F = []
 fl : F.length ≤ j
 ps : ∀ j', j' < j → (j' = 0 → out.getD j' 0 = -1) ∧ (0 < j' → ∃ P i, Kid (kids ns) P i j' ∧ out.getD j' 0 = (P : Int))
theorem stack_bump (F : List (Nat × Nat)) : stackOf (bump F) = stackOf F := by
 cases F with
 | nil => rfl
 | cons f r => rfl
theorem PInv.next {ns : List S95} {kq j : Nat} {out : List Int} {F : List (Nat × Nat)} (h : PInv ns kq j out F) (hj : j < ns.length) (hw : E (kids ns) 0 1 = some ns.length) : PInv ns (kq - 1) (j + 1) (outAt out j F) (popF (kids ns) ((j, 0) :: bump F)) := by
 have hkl : (kids ns).length = ns.length := by simp [kids]
 have hset : ∀ (l : List Int) (v : Int), l.length = ns.length → (l.set j v).getD j 0 = v := fun l v hl => by rw [List.getD_eq_getElem?_getD, List.getElem?_set_self (by omega)]; rfl
 have hsetne : ∀ (l : List Int) (v : Int) (j' : Nat), j' ≠ j → (l.set j v).getD j' 0 = l.getD j' 0 := fun l v j' hne => by rw [List.getD_eq_getElem?_getD, List.getD_eq_getElem?_getD, List.getElem?_set_ne (by omega)]
 have hO : Open (kids ns) ((j, 0) :: bump F) (j + 1) := by
  cases F with
  | nil =>
   have : j = 0 := by rcases h.nil rfl with e | e <;> omega
   subst this
   exact ⟨by omega, Nat.zero_le _, E_zero _ _, rfl⟩
  | cons f r => exact (h.op.push (h.hd _ _ rfl) (by omega)).1
 have hps : ∀ j', j' < j + 1 → (j' = 0 → (outAt out j F).getD j' 0 = -1) ∧ (0 < j' → ∃ P i, Kid (kids ns) P i j' ∧ (outAt out j F).getD j' 0 = (P : Int)) := by
  intro j' hj'
  rcases Nat.lt_or_ge j' j with hl | hl
  ·have := h.ps j' hl
   cases F with
   | nil => simpa only [outAt, hsetne _ _ _ (Nat.ne_of_lt hl)] using this
   | cons f r => simpa only [outAt, hsetne _ _ _ (Nat.ne_of_lt hl)] using this
  ·obtain rfl : j' = j := by omega
   cases F with
   | nil =>
    have : j' = 0 := by rcases h.nil rfl with e | e <;> omega
    exact ⟨fun _ => hset _ _ h.ol, fun h0 => by omega⟩
   | cons f r =>
    have hj0 : j' ≠ 0 := fun e => by cases h.z e
    exact ⟨fun h0 => absurd h0 hj0, fun _ => ⟨f.1, f.2, (h.op.push (h.hd _ _ rfl) (by omega)).2, hset _ _ (by rw [List.length_set]; exact h.ol)⟩⟩
 obtain ⟨hp1, hp2⟩ := popF_open _ hO
 have hpl := popF_length (kids ns) ((j, 0) :: bump F)
 have hbl : (bump F).length = F.length := by cases F <;> rfl
 simp only [List.length_cons, hbl] at hpl
 have hfl := h.fl
 have hn := h.n
 exact ⟨by omega, by omega, by cases F <;> simp [outAt, h.ol], hp1, fun f r hf => popF_head _ _ f r hf, fun hf => .inr (by have := hp2 hf (by simp); rw [hw] at this; injection this with this; omega), fun h0 => by omega, by omega, hps⟩
end Go.Proofs.YthjgohbkpjhkeaaGreatDoor.FireSpec
namespace Go.Proofs.YthjgohbkpjhkeaaGreatDoor.Impl
open Go.RowKit Go.Proofs.YthjgohbkpjhkeaaGreatDoorW.PrintWords Go.Proofs.YthjgohbkpjhkeaaGreatDoorW.PrintLast Go.Proofs.YthjgohbkpjhkeaaGreatDoorW.PrintMore Go.Proofs.YthjgohbkpjhkeaaGreatDoor.PFnExactDo Go.Proofs.YthjgohbkpjhkeaaGreatDoor.MapLib Go.Proofs.YthjgohbkpjhkeaaGreatDoor.FireSpec Go.Proofs.YthjgohbkpjhkeaaGreatDoor.Tr
abbrev IRow (W : World) (B : Nat) (v : Value) (l : List Int) : Prop := Kd.R (Kd.int .i64) 3 W B (fun _ => True) v l
theorem irow_own {W : World} {B : Nat} {v : Value} {l : List Int} (h : IRow W B v l) (k : Nat) (hk : v.ownBlock = some k) : B ≤ k ∧ k < W.heap.size := by
 obtain ⟨inner, ho⟩ := Kd.R_own h
 exact ⟨own_base ho k hk, own_lt ho k hk⟩
theorem irow_keep {W W1 : World} {B : Nat} {v : Value} {l : List Int} (h : IRow W B v l) (hm : ∀ k, v.ownBlock = some k → W1.heap[k]? = W.heap[k]?) : IRow W1 B v l :=
 Kd.R_mono (Kd.R_move (Kd.R_tight rfl h) (fun k hk => hm k hk.symm)) (fun _ _ => trivial)
structure Three (W : World) (B : Nat) (u v x : Value) (a b c : List Int) : Prop where
 ra : IRow W B u a
 rb : IRow W B v b
 rc : IRow W B x c
 ab : ∀ k, u.ownBlock = some k → v.ownBlock ≠ some k
 bc : ∀ k, v.ownBlock = some k → x.ownBlock ≠ some k
 ca : ∀ k, x.ownBlock = some k → u.ownBlock ≠ some k
section
variable {W W1 : World} {B : Nat} {u v x u1 : Value} {a b c a1 : List Int}
theorem Three.rot (h : Three W B u v x a b c) : Three W B v x u b c a := ⟨h.rb, h.rc, h.ra, h.bc, h.ca, h.ab⟩
theorem Three.step (h : Three W B u v x a b c) (hr : IRow W1 B u1 a1) (hg : W.grownBy W1 u.ownBlock) (hm : u1.ownBlock = u.ownBlock ∨ ∃ k, u1.ownBlock = some k ∧ W.heap.size ≤ k) : Three W1 B u1 v x a1 b c := by
 refine ⟨hr, irow_keep h.rb (fun k hk => hg.block k (irow_own h.rb k hk).2 (fun e => h.ab k e.symm hk)), irow_keep h.rc (fun k hk => hg.block k (irow_own h.rc k hk).2 (fun e => h.ca k hk e.symm)), fun k hk => ?_, h.bc, fun k hk => ?_⟩
 ·rcases hm with e | ⟨q, e, hq⟩
  ·exact h.ab k (e ▸ hk)
  ·intro h2
   have := (irow_own h.rb k h2).2
   rw [e] at hk
   injection hk with hk
   omega
 ·rcases hm with e | ⟨q, e, hq⟩
  ·rw [e]; exact h.ca k hk
  ·intro h2
   have := (irow_own h.rc k hk).2
   rw [e] at h2
   injection h2 with h2
   omega
theorem Three.below (h : Three W B u v x a b c) (hb : Below W.heap.size W W1) : Three W1 B u v x a b c := ⟨Kd.R_below h.ra hb, Kd.R_below h.rb hb, Kd.R_below h.rc hb, h.ab, h.bc, h.ca⟩
end
theorem own_len {A : Option Addr} {n c m d : Nat} : (Value.slice A n c).ownBlock = (Value.slice A m d).ownBlock := by cases A <;> rfl
theorem l4Parents_calls (ns : List S95) (hb : ns.length ≤ 4000) (hk : ∀ n ∈ ns, 0 ≤ n.f5) (hm : ∀ n ∈ ns, n.f5 ≤ ns.length) (hw : E (kids ns) 0 1 = some ns.length) (A : Option Addr) (c : Nat) (w : World) (hr : Kd.C k95 w A ns.length ns) (hc : ns.length ≤ c) :
  Calls Tryz.prog 99 #[.slice A ns.length c] w fun e w' => ∃ v res, e = .returned v ∧ IRow w' w.heap.size v res ∧ res.length = ns.length ∧ ParsFrom (kids ns) res 0 ns.length ∧ Below w.heap.size w w' := by
 have hn0 : 0 < ns.length := ((E_bounds hw).2 (by omega)).1
 have HX := am (And.intro hr (And.intro hc (And.intro hn0 (And.intro hk (And.intro hm hw)))))
 clear hr hc hk hm hw hn0
 go_enter Tryz.func99, Tryz.ntmps99
 go_wp2_with (first | ((with_reducible refine gate_dst (N := 9) rfl ?_); refine Kd.R_make (Kd.int .i64) (w0 := w) w.heap.size 3 rfl (N := 9) rfl 44 _ _ rfl (ns.length : Int) rfl rfl Tryz.underlying44 (.int .i64 0) 8 info3 rfl (by decide) (by omega) (0 : Int) (ok := fun _ => True) (okp := fun _ => True) rfl (fun _ hk => hk) trivial (by omega) (by omega) (Below.refl _ _) (Nat.le_refl _) ?_; intro v3 w3 ho hb hg hn; have HO3 := am ho; have HB3 := am hb; clear ho hb hg hn) | ((with_reducible refine gate_dst (N := 10) rfl ?_); refine Kd.R_lit (Kd.int .i64) (w0 := w) w.heap.size 3 ?hg (N := 10) ?hd (xs := ([] : List Int)) (inner := []) (ok := fun _ => True) (okp := fun _ => True) ?hr ?hp (fun _ hk => hk) trivial HB3.out (below_size HB3.out) (by simp) ?_; (case hd => rfl); (case hg => rfl); (case hr => (go_simp; done)); (case hp => exact (Reps.none _ _)); intro v4 w4 ho hb hg hn; have HO4 := am (And.intro ho (And.intro hg hn)); have HB4 := am hb; clear ho hb hg hn) | ((with_reducible refine gate_dst (N := 11) rfl ?_); refine Kd.R_lit (Kd.int .i64) (w0 := w) w.heap.size 3 ?hg (N := 11) ?hd (xs := ([] : List Int)) (inner := []) (ok := fun _ => True) (okp := fun _ => True) ?hr ?hp (fun _ hk => hk) trivial HB4.out (below_size HB4.out) (by simp) ?_; (case hd => rfl); (case hg => rfl); (case hr => (go_simp; done)); (case hp => exact (Reps.none _ _)); intro v5 w5 ho hb hg hn; have HO5 := am (And.intro ho (And.intro hg hn)); have HB5 := am hb; clear ho hb hg hn) | fail)
 have HT := am (show Three w5 w.heap.size v3 v4 v5 (List.replicate (ns.length : Int).toNat 0) [] [] from by
  obtain ⟨o4, g4, b4, e4, l4⟩ := HO4.out
  obtain ⟨o5, g5, b5, e5, l5⟩ := HO5.out
  have i3 := irow_own HO3.out
  have i4 := irow_own o4
  have h34 := g4.size
  refine ⟨irow_keep (irow_keep HO3.out (fun k hk => g4.block k (i3 k hk).2 (by simp))) (fun k hk => g5.block k (by have := (i3 k hk).2; omega) (by simp)), irow_keep o4 (fun k hk => g5.block k (i4 k hk).2 (by simp)), o5, fun k hk h => ?_, fun k hk h => ?_, fun k hk h => ?_⟩
  ·have := (i3 k hk).2; rw [e4] at h; injection h with h; omega
  ·have := (i4 k hk).2; rw [e5] at h; injection h with h; omega
  ·have := (i3 k h).2; rw [e5] at hk; injection hk with hk; omega)
 rw [Int.toNat_natCast] at HT
 obtain ⟨go, co, e3, gb, _, _⟩ := Kd.R_form HT.out.ra (by rw [List.length_replicate]; exact HX.out.2.2.1)
 rw [List.length_replicate] at e3
 subst e3
 have GB := am gb
 clear HO3 HO4 HO5 HB3 HB4 gb
 go_loopg [4, 5, 6] (ns.length + 1) (fun kq v4 v5 v6 wr => ∃ (j : Nat) (out : List Int) (F : List (Nat × Nat)), v6 = .int .i64 j ∧ Aside0 (PInv ns kq j out F) ∧ Aside0 (Three wr w.heap.size (.slice (some ⟨go, 0, none⟩) ns.length co) v4 v5 out (stackOf F) (leftsOf (kids ns) F)) ∧ Aside0 (Below w.heap.size w wr))
 case atStart => exact ⟨0, _, [], rfl, ⟨by omega, by omega, by simp, trivial, (fun _ _ h => by cases h), fun _ => .inl rfl, fun _ => rfl, by simp, fun j' h => by omega⟩, HT, HB5⟩
 case round =>
  obtain ⟨j, out, F, rfl, HI, HT, HB⟩ := hrel
  obtain ⟨gO, rfl⟩ : ∃ g, g = gk := ⟨_, rfl⟩
  rename World => wo
  have hd : decide ((j : Int) < (ns.length : Int)) = decide (j < ns.length) := by simp
  by_cases hlt : j < ns.length
  ·have hd2 : decide (j < ns.length) = true := decide_eq_true hlt
   rw [hd2] at hd
   have hjb : (j : Int) < 4001 := by omega
   have e3 := eq_true (show (0 : Int) ≤ (j : Int) from by omega)
   have e4 := eq_true (show (j : Int) < ns.length from by omega)
   have hfl := HI.out.fl
   have hdd := HI.out.hd
   have hset := Kd.R_putg HT.out.ra (j : Int) (-1)
   obtain ⟨hx7, hf7⟩ := Kd.R_celln (0 : Int) HT.out.ra (j : Int) (by omega) (by omega)
   rw [Int.toNat_natCast] at hset hx7 hf7
   have HS := am hset
   have HJ := am (And.intro hlt hfl)
   obtain ⟨A4, c4, e5⟩ := Kd.R_slice HT.out.rb
   obtain ⟨A5, c5, e6⟩ := Kd.R_slice HT.out.rc
   rw [stackOf_length] at e5
   rw [leftsOf_length] at e6
   subst e5 e6
   have d23 : decide (0 < F.length) = !F.isEmpty := by cases F <;> simp
   clear hset hlt
   go_upto_region 8 with (first | ((with_reducible refine gate_store (t := 3) (p := 20) rfl ?_); refine store_event (t := 3) (p := 20) (v := ?vo) (w1 := wo.setCell ⟨go, j, none⟩ (.int .i64 (-1))) ?hg ?ho ?hn ?hr ?_; (case ho => rfl); (case hg => rfl); (case hn => rfl); (case hr => first | (go_simp; done) | (go_simp; rfl)); intro w7 hw; have HT7 := am (HT.out.step (hw ▸ HS.out.1) (hw ▸ HS.out.2) (.inl rfl)); have HB7 := am (show Below w.heap.size w w7 from hw ▸ below_set HB.out GB.out); clear hw hx7 hf7) | fail)
   go_cut [23] (fun v23 wc => v23 = .bool (!F.isEmpty) ∧ wc = w7)
   case first =>
    go_wp2
    go_meet
    case rel => exact ⟨rfl, rfl⟩
   obtain ⟨rfl, hw⟩ := hcut
   subst hw
   rename_i hk
   refine hk _ _ ?_
   clear d23
   rename World => w7
   go_cut [5] (fun u5 wc => u5 = .slice A5 F.length c5 ∧ Aside0 (Three wc w.heap.size (.slice (some ⟨go, 0, none⟩) ns.length co) (.slice A4 F.length c4) (.slice A5 F.length c5) (outAt out j F) (stackOf (bump F)) (leftsOf (kids ns) (bump F))) ∧ Aside0 (Below w.heap.size w wc))
   case first =>
    cases F with
    | nil =>
     go_wp2
     go_meet
     case rel => exact ⟨rfl, HT7, HB7⟩
    | cons f r =>
     obtain ⟨P, i⟩ := f
     obtain ⟨q, hq⟩ : ∃ q, FireSpec.leftOf (kids ns) (P, i) = q := ⟨_, rfl⟩
     have hq0 : 0 < q := hq ▸ HI.out.hd _ _ rfl
     have hPl : P < ns.length := by simpa [kids] using HI.out.op.1
     have hq1 : q ≤ 4000 := by
      have h1 := HX.out.2.2.2.2.1 _ (List.getElem_mem hPl)
      have h2 := HX.out.2.2.2.1 _ (List.getElem_mem hPl)
      rw [← hq, FireSpec.leftOf, kids_at hPl]
      unfold kid
      omega
     have hq2 : (leftsOf (kids ns) r ++ [(q : Int)]).set r.length ((q : Int) - 1) = leftsOf (kids ns) (bump ((P, i) :: r)) := by
      have hq3 : FireSpec.leftOf (kids ns) (P, i + 1) = q - 1 := by rw [← hq]; simp only [FireSpec.leftOf]; omega
      rw [bump, leftsOf_cons, ← leftsOf_length (kids ns) r, set_last, hq3, show ((q - 1 : Nat) : Int) = (q : Int) - 1 from by omega]
     have hl1 := leftsOf_cons (kids ns) (P, i) r
     rw [show FireSpec.leftOf (kids ns) (P, i) = q from hq] at hl1
     rw [hl1, stackOf_cons] at HT7
     have hs1 : (stackOf r ++ [(P : Int)]).length = r.length + 1 := by rw [List.length_append, stackOf_length]; rfl
     have hs2 : (leftsOf (kids ns) r ++ [(q : Int)]).length = r.length + 1 := by rw [List.length_append, leftsOf_length]; rfl
     obtain ⟨g5, d5, e7, gb5, _, _⟩ := Kd.R_form HT7.out.rc (by omega)
     injection e7 with e7 e8 e9
     subst e7 e9
     clear e8
     obtain ⟨ad4, e7, hx4⟩ := Kd.at_int (Kd.R_reads' HT7.out.rb).2.2 (r.length : Int) (by omega) (by rw [show (stackOf r ++ [((P, i).1 : Int)]).length = r.length + 1 from hs1]; omega)
     cases e7
     rw [show rd (stackOf r ++ [(P : Int)]) (r.length : Int) = P from by rw [← stackOf_length r]; exact rd_last _ _, Int.toNat_natCast] at hx4
     obtain ⟨hx7, hf7⟩ := Kd.R_celln (0 : Int) HT7.out.ra (j : Int) (by omega) (by have := HJ.out.1; omega)
     rw [Int.toNat_natCast] at hx7 hf7
     have hp := Kd.R_putg HT7.out.ra (j : Int) (P : Int)
     rw [Int.toNat_natCast] at hp
     have HP := am hp
     have HQ := am (fun W' (h : Kd.R (Kd.int .i64) 3 W' w.heap.size (fun _ => True) (.slice (some ⟨g5, 0, none⟩) (r.length + 1) c5) (leftsOf (kids ns) r ++ [(q : Int)])) => And.intro (Kd.R_celln (0 : Int) h (r.length : Int) (by omega) (by omega)) (Kd.R_putg h (r.length : Int) ((q : Int) - 1)))
     have hrd : rdOf (0 : Int) (leftsOf (kids ns) r ++ [(q : Int)]) (r.length : Int) = q := by rw [← leftsOf_length (kids ns) r]; simp [rdOf]
     rw [hrd, Int.toNat_natCast, hq2] at HQ
     have HG5 := am gb5
     have hrl : r.length ≤ 4000 := by have := HJ.out.2; simp only [List.length_cons] at this; omega
     clear hp hq2 hl1 hs1 hs2 gb5 hrd hq hPl hdd hfl
     rw [List.length_cons]
     go_wp2_with (first | ((with_reducible refine gate_store (t := 3) (p := 32) rfl ?_); refine store_event (t := 3) (p := 32) (v := .tmp 31) (w1 := w7.setCell ⟨go, j, none⟩ (.int .i64 ((P : Int)))) ?hga ?hoa ?hna ?hra ?_; (case hoa => rfl); (case hga => rfl); (case hna => rfl); (case hra => first | (go_simp; done) | (go_simp; rfl)); intro w8 hw; have HT8 := am (HT7.out.step (hw ▸ HP.out.1) (hw ▸ HP.out.2) (.inl rfl)); have HB8 := am (show Below w.heap.size w w8 from hw ▸ below_set HB7.out GB.out); clear hw hx7 hf7 hx4; obtain ⟨⟨hx8, hf8⟩, hp8⟩ := HQ.out w8 HT8.out.rc; have HP8 := am hp8; clear hp8) | ((with_reducible refine gate_store (t := 3) (p := 40) rfl ?_); refine store_event (t := 3) (p := 40) (v := .tmp 39) (w1 := w8.setCell ⟨g5, r.length, none⟩ (.int .i64 ((q : Int) - 1))) ?hgb ?hob ?hnb ?hrb ?_; (case hob => rfl); (case hgb => rfl); (case hnb => rfl); (case hrb => first | (go_simp; done) | (go_simp; rfl)); intro w9 hw; have HT9 := am ((HT8.out.rot.rot.step (hw ▸ HP8.out.1) (hw ▸ HP8.out.2) (.inl rfl)).rot); have HB9 := am (show Below w.heap.size w w9 from hw ▸ below_set HB8.out HG5.out); clear hw hx8 hf8) | fail)
     go_meet
     case rel => exact ⟨rfl, ⟨by rw [stack_bump, stackOf_cons]; exact HT9.out⟩, HB9⟩
   case rest =>
    obtain ⟨rfl, HT8, HB8⟩ := hcut
    obtain ⟨ad, A3, c3, hA, _, _, _, _, _, hy5, _, _⟩ := at_T95 HX.out.1 (j : Int) (by omega) (by have := HJ.out.1; omega)
    subst hA
    have hjn := HJ.out.1
    rw [show rd_T95 ns (j : Int) = ns[j] from by simp [rd_T95, hjn]] at hy5
    simp only [Int.toNat_natCast] at hy5
    have hl0 : ((FireSpec.leftOf (kids ns) (j, 0) : Nat) : Int) = ns[j].f5 := by
     have := HX.out.2.2.2.1 _ (List.getElem_mem hjn)
     rw [FireSpec.leftOf, kids_at hjn]
     unfold kid
     omega
    have HNX := am (HI.out.next hjn HX.out.2.2.2.2.2)
    have hbl : (bump F).length = F.length := by cases F with | nil => rfl | cons f r => rfl
    generalize bump F = F2 at HT8 HNX hbl
    generalize outAt out j F = out2 at HT8 HNX
    generalize ns[j].f5 = y at hy5 hl0
    have HY := am (And.intro (fun W (hW : Below w.heap.size w W) => pw_cell_below hW hy5) hl0)
    have HL := am (show F2.length ≤ 4000 from by have := HJ.out.2; omega)
    have HBL := am hbl
    have hx5 := HY.out.1 _ HB8.out
    clear hy5 hl0 hjn hdd hfl hbl
    go_wp2_with (first | ((with_reducible refine gate_builtin (b := .append) (xs := #[.tmp 41, .tmp 43]) rfl ?_); at_builtin; refine Kd.R_append (Kd.int .i64) (w0 := w) w.heap.size rfl (.tmp 41) (.tmp 43) 44 3 (.int .i64 0) 8 rfl Tryz.underlying44 info3 rfl (by decide) (by omega) (.slice A4 F.length c4) (stackOf F2) (j : Int) [.int .i64 (j : Int)] (fun _ => True) (fun _ => False) rfl rfl rfl (fun _ hk => hk.elim) (fun _ _ => trivial) HT8.out.rb HB8.out (below_size HB8.out) (by rw [stackOf_length]; have := HL.out; omega) ?_; intro v41 w10 ho hb hg hat; have HT10 := am ((HT8.out.rot.step ho hg hat).rot.rot); have HB10 := am hb; have hx10 := HY.out.1 _ hb; clear ho hb hg hat hx5) | ((with_reducible refine gate_builtin (b := .append) (xs := #[.tmp 45, .tmp 51]) rfl ?_); at_builtin; refine Kd.R_append (Kd.int .i64) (w0 := w) w.heap.size rfl (.tmp 45) (.tmp 51) 44 3 (.int .i64 0) 8 rfl Tryz.underlying44 info3 rfl (by decide) (by omega) (.slice A5 F.length c5) (leftsOf (kids ns) F2) y [.int .i64 y] (fun _ => True) (fun _ => False) rfl rfl rfl (fun _ hk => hk.elim) (fun _ _ => trivial) HT10.out.rc HB10.out (below_size HB10.out) (by rw [leftsOf_length]; have := HL.out; omega) ?_; intro v51 w11 ho hb hg hat; have HT11 := am ((HT10.out.rot.rot.step ho hg hat).rot); have HB11 := am hb; clear ho hb hg hat) | fail)
    have HT12 := am (show Three w11 w.heap.size (.slice (some ⟨go, 0, none⟩) ns.length co) v41 v51 out2 (stackOf ((j, 0) :: F2)) (leftsOf (kids ns) ((j, 0) :: F2)) from by rw [stackOf_cons, leftsOf_cons, HY.out.2]; exact HT11.out)
    clear HT7 HB7 HT8 HB8 HT10 HB10 HT11 HI HT HS
    go_loopg [4, 5] (F2.length + 2) (fun kq u4 u5 wr => ∃ F3 : List (Nat × Nat), Aside0 (F3.length + 1 = kq ∧ popF (kids ns) F3 = popF (kids ns) ((j, 0) :: F2) ∧ F3.length ≤ 4001) ∧ wr = w11 ∧ Aside0 (Three w11 w.heap.size (.slice (some ⟨go, 0, none⟩) ns.length co) u4 u5 out2 (stackOf F3) (leftsOf (kids ns) F3)))
    case atStart => exact ⟨_, ⟨rfl, rfl, by have := HL.out; simp only [List.length_cons]; omega⟩, rfl, HT12⟩
    case round =>
     obtain ⟨F3, HF, hw, HT3⟩ := hrel
     subst hw
     obtain ⟨A6, c6, e7⟩ := Kd.R_slice HT3.out.rb
     obtain ⟨A7, c7, e8⟩ := Kd.R_slice HT3.out.rc
     rw [stackOf_length] at e7
     rw [leftsOf_length] at e8
     subst e7 e8
     cases F3 with
     | nil =>
      have HZ := am (show Three wr w.heap.size (.slice (some ⟨go, 0, none⟩) ns.length co) (.slice A6 0 c6) (.slice A7 0 c7) out2 (stackOf (popF (kids ns) ((j, 0) :: F2))) (leftsOf (kids ns) (popF (kids ns) ((j, 0) :: F2))) from by rw [← HF.out.2.1]; exact HT3.out)
      rw [show ([] : List (Nat × Nat)).length = 0 from rfl]
      clear HT3
      go_wp2
      have hii : (j : Int) + 1 = ((j + 1 : Nat) : Int) := by omega
      go_roundg (gO - 1)
      case measure => have := HNX.out.n; have := HJ.out.1; omega
      case rel => exact ⟨j + 1, out2, _, by rw [hii], HNX, HZ, HB11⟩
     | cons f r =>
      obtain ⟨q, hq⟩ : ∃ q, FireSpec.leftOf (kids ns) f = q := ⟨_, rfl⟩
      have hrl : r.length ≤ 4000 := by have := HF.out.2.2; simp only [List.length_cons] at this; omega
      obtain ⟨ad7, e7, hx7⟩ := Kd.at_int (Kd.R_reads' HT3.out.rc).2.2 (r.length : Int) (by omega) (by rw [leftsOf_length, List.length_cons]; omega)
      cases e7
      rw [leftsOf_cons, show rd (leftsOf (kids ns) r ++ [(FireSpec.leftOf (kids ns) f : Int)]) (r.length : Int) = FireSpec.leftOf (kids ns) f from by rw [← leftsOf_length (kids ns) r]; exact rd_last _ _, Int.toNat_natCast, hq] at hx7
      have HT4 := am (show Three wr w.heap.size (.slice (some ⟨go, 0, none⟩) ns.length co) (.slice A6 (r.length + 1) c6) (.slice (some ad7) (r.length + 1) c7) out2 (stackOf (f :: r)) (leftsOf (kids ns) (f :: r)) from HT3.out)
      rw [List.length_cons]
      clear HT3
      have HQ := am hq
      by_cases hq0 : q = 0
      ·subst hq0
       obtain ⟨i0, hi0, _, hsz0, _⟩ := info_parts info3
       have hc4 := cut_to (P := Tryz.prog) 44 3 .i64 Tryz.underlying44 hi0 A6 (r.length + 1) c6 (r.length : Int) (by omega) (by omega) (Kd.R_reads' HT4.out.rb).2.1
       have hc5 := cut_to (P := Tryz.prog) 44 3 .i64 Tryz.underlying44 hi0 (some ad7) (r.length + 1) c7 (r.length : Int) (by omega) (by omega) (Kd.R_reads' HT4.out.rc).2.1
       clear hq
       go_wp2
       go_roundg (gk - 1)
       case measure => have := HF.out.1; simp only [List.length_cons] at this; omega
       case rel =>
        have h1 := HF.out
        simp only [List.length_cons] at h1
        refine ⟨r, ⟨by omega, by rw [← h1.2.1, popF, if_pos HQ.out], by omega⟩, rfl, ⟨?_⟩⟩
        have h2 := Kd.R_take (m := r.length) HT4.out.rb (by rw [stackOf_length]; simp)
        have h3 := Kd.R_take (m := r.length) HT4.out.rc (by rw [leftsOf_length]; simp)
        rw [show (stackOf (f :: r)).take r.length = stackOf r from by rw [stackOf_cons, ← stackOf_length r]; simp] at h2
        rw [show (leftsOf (kids ns) (f :: r)).take r.length = leftsOf (kids ns) r from by rw [leftsOf_cons, ← leftsOf_length (kids ns) r]; simp] at h3
        exact ⟨HT4.out.ra, h2, h3, fun k hk => by rw [own_len (m := r.length + 1) (d := c6)]; exact HT4.out.ab k hk, fun k hk => by rw [own_len (m := r.length + 1) (d := c7)]; exact HT4.out.bc k (by rw [own_len (m := r.length) (d := c6)]; exact hk), fun k hk => HT4.out.ca k (by rw [own_len (m := r.length) (d := c7)]; exact hk)⟩
      ·have HZ := am (show Three wr w.heap.size (.slice (some ⟨go, 0, none⟩) ns.length co) (.slice A6 (r.length + 1) c6) (.slice (some ad7) (r.length + 1) c7) out2 (stackOf (popF (kids ns) ((j, 0) :: F2))) (leftsOf (kids ns) (popF (kids ns) ((j, 0) :: F2))) from by rw [← HF.out.2.1, popF, if_neg (by rw [hq]; exact hq0)]; exact HT4.out)
       have hq1 : ((q : Int) == 0) = false := by rw [beq_eq_false_iff_ne]; omega
       clear hq0 hq
       go_wp2
       have hii : (j : Int) + 1 = ((j + 1 : Nat) : Int) := by omega
       go_roundg (gO - 1)
       case measure => have := HNX.out.n; have := HJ.out.1; omega
       case rel => exact ⟨j + 1, out2, _, by rw [hii], HNX, HZ, HB11⟩
  ·have hd2 : decide (j < ns.length) = false := decide_eq_false hlt
   rw [hd2] at hd
   have HJ := am hlt
   clear hlt
   go_wp2
   go_ret
   exact ⟨_, out, rfl, HT.out.ra, HI.out.ol, fun j' _ h2 => HI.out.ps j' (by have := HJ.out; omega), HB.out⟩
def ParOf (ns : List S95) (j P : Nat) : Prop := ∀ A c w, Kd.C k95 w A ns.length ns → ns.length ≤ c → Calls Tryz.prog 99 #[.slice A ns.length c] w fun e w' => ∃ ad n cc, e = .returned (.slice (some ad) n cc) ∧ w'.cell? (ad.add j) = some (.int .i64 P) ∧ j < n ∧ Below w.heap.size w w'
theorem par_is {ns : List S95} (hb : ns.length ≤ 4000) (hk : ∀ n ∈ ns, 0 ≤ n.f5) (hm : ∀ n ∈ ns, n.f5 ≤ ns.length) (hw : E (kids ns) 0 1 = some ns.length) {P i j : Nat} (hK : Kid (kids ns) P i j) (hj : j < ns.length) : ParOf ns j P := fun A c w hr hc => by
 refine (l4Parents_calls ns hb hk hm hw A c w hr hc).mono ?_
 rintro e w' ⟨v, res, rfl, hR, hl, hp, hB⟩
 obtain ⟨P2, i2, hK2, h4⟩ := (hp j (Nat.zero_le _) hj).2 (by have := hK.lt; omega)
 obtain ⟨rfl, _⟩ := hK.unique hK2
 obtain ⟨A1, c1, rfl⟩ := Kd.R_slice hR
 obtain ⟨ad, rfl, hx⟩ := Kd.at_int (Kd.R_reads' hR).2.2 (j : Int) (by omega) (by omega)
 rw [show rd res (j : Int) = P from h4, Int.toNat_natCast] at hx
 exact ⟨ad, _, c1, rfl, hx, by omega, hB⟩
end Go.Proofs.YthjgohbkpjhkeaaGreatDoor.Impl
set_option maxHeartbeats 4000000
set_option maxRecDepth 100000
namespace Go.Proofs.YthjgohbkpjhkeaaGreatDoor.PFnExactDo
open Go.RowKit Go.Proofs.YthjgohbkpjhkeaaGreatDoorW.PrintWords Go.Proofs.YthjgohbkpjhkeaaGreatDoorW.PrintLast Go.Proofs.YthjgohbkpjhkeaaGreatDoorW.PrintMore Go.Proofs.YthjgohbkpjhkeaaGreatDoor.MapLib
def kidsI (ns : List S95) : Nat → Int → Option (List Int)
 | 0, _ => some []
 | n + 1, k => (spec_l3Skip.f 0 ns k).bind fun q => (kidsI ns n q).map (k :: ·)
def spec_l4KidsOf.f (k : Nat) (ns : List S95) (at_ : Int) : Option (List Int) := if 0 ≤ at_ ∧ at_ < ns.length ∧ ns.length < 1073741824 ∧ (rd_T95 ns at_).f5 ≤ 1073741823 then kidsI ns (rd_T95 ns at_).f5.toNat (at_ + 1) else none
abbrev IntR (W : World) (B : Nat) (v : Value) (l : List Int) : Prop := Kd.R (Kd.int .i64) 3 W B (fun _ => True) v l
def KidsAt (ns : List S95) (N : Nat) (r : List Int) (kq j : Nat) (q : Int) (out : List Int) : Prop := j + kq = N + 1 ∧ j ≤ N ∧ out.length = j ∧ ∃ rest, kidsI ns (N - j) q = some rest ∧ out ++ rest = r
theorem spec_l4KidsOf.calls (k : Nat) (A : Option Addr) (c : Nat) (ns : List S95) (at_ : Int) (r : List Int) (w : World) (hr : Kd.C k95 w A ns.length ns) (hc : ns.length ≤ c) (h : spec_l4KidsOf.f k ns at_ = some r) :
  Calls Tryz.prog 118 #[.slice A ns.length c, .int .i64 at_] w fun e w' => ∃ v, e = .returned v ∧ IntR w' w.heap.size v r ∧ Below w.heap.size w w' := by
 unfold spec_l4KidsOf.f at h
 split at h
 case isFalse => cases h
 rename_i hi
 obtain ⟨p, rfl⟩ := Int.eq_ofNat_of_zero_le hi.1
 obtain ⟨y, hy⟩ : ∃ y, (rd_T95 ns (p : Int)).f5 = y := ⟨_, rfl⟩
 rw [hy] at h hi
 obtain ⟨ad, A3, c3, hA, _, _, _, _, _, hx5, _, _⟩ := at_T95 hr (p : Int) (by omega) (by omega)
 subst hA
 rw [hy, Int.toNat_natCast] at hx5
 obtain ⟨N, hN⟩ : ∃ N, y.toNat = N := ⟨_, rfl⟩
 rw [hN] at h
 have HX := am (And.intro hr (And.intro hx5 (And.intro h hc)))
 have hNb : N ≤ 1073741823 := by omega
 have HY := am hN
 have e3 := eq_true (show (0 : Int) ≤ (p : Int) from by omega)
 have e4 := eq_true (show (p : Int) < ns.length from hi.2.1)
 have hp : (p : Int) < 1073741824 := by omega
 clear hr h hi hy hx5 hN
 go_enter Tryz.func118, Tryz.ntmps118
 go_wp2_with (first | ((with_reducible refine gate_dst (N := 8) rfl ?_); refine Kd.R_lit (Kd.int .i64) (w0 := w) w.heap.size 3 ?hg (N := 8) ?hd (xs := ([] : List Int)) (inner := []) (ok := fun _ => True) (okp := fun _ => True) ?hr ?hp (fun _ hk => hk) trivial (Below.refl _ _) (Nat.le_refl _) (by simp) ?_; (case hd => rfl); (case hg => rfl); (case hr => (go_simp; done)); (case hp => exact (Reps.none _ _)); intro v1 w1 ho hb hg_ hn_; have HO1 := am ho; have HB1 := am hb; clear hg_ hn_ ho hb) | fail)
 go_loopg [5, 6, 7] (N + 1) (fun kq v5 v6 v7 wr => ∃ (j : Nat) (q : Int) (out : List Int), v6 = .int .i64 q ∧ v7 = .int .i64 j ∧ Aside0 (KidsAt ns N r kq j q out) ∧ Aside0 (IntR wr w.heap.size v5 out) ∧ Aside0 (Below w.heap.size w wr))
 case atStart => exact ⟨0, (p : Int) + 1, [], rfl, rfl, ⟨by omega, by omega, rfl, r, HX.out.2.2.1, rfl⟩, HO1, HB1⟩
 case round =>
  obtain ⟨j, q, out, rfl, rfl, HI, HO, HB⟩ := hrel
  have hx5 := pw_cell_below HB.out HX.out.2.1
  obtain ⟨h1, h2, h3, rest, h4, h5⟩ := HI.out
  by_cases hlt : j < N
  ·have d17 : decide ((j : Int) < y) = true := decide_eq_true (by have := HY.out; omega)
   rw [show N - j = (N - (j + 1)) + 1 from by omega, kidsI] at h4
   obtain ⟨q2, h6, h4⟩ := Option.bind_eq_some_iff.1 h4
   obtain ⟨rest2, h7, rfl⟩ := Option.map_eq_some_iff.1 h4
   have HS := am h6
   have HI2 := am (show KidsAt ns N r (gk - 1) (j + 1) q2 (out ++ [q]) from ⟨by omega, by omega, by simp [h3], rest2, h7, by rw [← h5]; simp⟩)
   have hol : out.length ≤ 1073741823 := by omega
   have hjb : (j : Int) < 1073741823 := by omega
   have HL := am (And.intro hlt h1)
   clear h1 h2 h3 h4 h5 h6 h7 hlt
   go_wp2_with (first | ((with_reducible refine gate_builtin (b := .append) (xs := #[.tmp 20, .tmp 22]) rfl ?_); at_builtin; refine Kd.R_append (Kd.int .i64) (w0 := w) w.heap.size rfl (.tmp 20) (.tmp 22) 44 3 (.int .i64 0) 8 rfl Tryz.underlying44 info3 rfl (by decide) (by omega) _ out q [.int .i64 q] (fun _ => True) (fun _ => False) rfl rfl rfl (fun _ hk => hk.elim) (fun _ _ => trivial) HO.out HB.out (below_size HB.out) (by omega) ?_; intro v2 w2 ho hb hg hat; have HO2 := am ho; have HB2 := am hb; clear ho hb hg hat) | (go_at_call 65; refine (spec_l3Skip.calls 0 _ c ns q q2 _ (Kd.C_below HX.out.1 HB2.out) HX.out.2.2.2 HS.out).mono ?_; rintro e w3 ⟨rfl, hb3⟩; have HB3 := am (And.intro hb3.below (below_step HB2.out hb3.below)); clear hb3) | fail)
   have hii : (j : Int) + 1 = ((j + 1 : Nat) : Int) := by omega
   go_roundg (gk - 1)
   case measure => have := HL.out; omega
   case rel => exact ⟨j + 1, q2, _, rfl, by rw [hii], HI2, ⟨Kd.R_below HO2.out HB3.out.1⟩, ⟨HB3.out.2⟩⟩
  ·have d17 : decide ((j : Int) < y) = false := decide_eq_false (by have := HY.out; omega)
   rw [show N - j = 0 from by omega, kidsI] at h4
   have HE := am (show out = r from by injection h4 with h4; rw [← h5, ← h4, List.append_nil])
   clear h1 h2 h3 h4 h5 hlt
   go_wp2
   go_ret
   exact ⟨_, rfl, by rw [← HE.out]; exact HO.out, HB.out⟩
def spec_l5Number.f (k : Nat) (ns : List S95) (P b : Int) : Option Int := (spec_l4KidsOf.f k ns P).bind fun l => spec_l3Find.f k l b
theorem spec_l5Number.calls (k : Nat) (A : Option Addr) (c : Nat) (ns : List S95) (P b r : Int) (w : World) (hr : Kd.C k95 w A ns.length ns) (hc : ns.length ≤ c) (h : spec_l5Number.f k ns P b = some r) :
  Calls Tryz.prog 97 #[.slice A ns.length c, .int .i64 P, .int .i64 b] w fun e w' => e = .returned (.int .i64 r) ∧ Below w.heap.size w w' := by
 obtain ⟨l, h1, h2⟩ := Option.bind_eq_some_iff.1 h
 clear h
 go_enter Tryz.func97, Tryz.ntmps97
 go_wp2_with fail
 refine (spec_l4KidsOf.calls k A c ns P l w hr hc h1).mono ?_
 rintro e w1 ⟨v, rfl, hR, hb1⟩
 obtain ⟨A1, c1, rfl⟩ := Kd.R_slice hR
 have H1 := am (And.intro hR hb1)
 clear hR hb1
 go_wp2_with fail
 refine (spec_l3Find.calls k A1 c1 l b r w1 (Kd.R_reads' H1.out.1).2.2 (Kd.R_reads' H1.out.1).2.1 h2).mono ?_
 rintro e w2 ⟨rfl, hb2⟩
 have H2 := am (below_step H1.out.2 hb2.below)
 clear hb2
 go_wp2
 go_ret
 exact ⟨rfl, H2.out⟩
def spec_l5Next.f (k : Nat) (ns : List S95) (P i : Int) : Option Int := (spec_l4KidsOf.f k ns P).bind fun l => if 0 ≤ i ∧ i < 1073741824 then if i + 1 < l.length then (if 0 ≤ rd l (i + 1) ∧ rd l (i + 1) < ns.length then some (rd_T95 ns (rd l (i + 1))).f0 else none) else some (-1) else none
theorem spec_l5Next.calls (k : Nat) (A : Option Addr) (c : Nat) (ns : List S95) (P i r : Int) (w : World) (hr : Kd.C k95 w A ns.length ns) (hc : ns.length ≤ c) (h : spec_l5Next.f k ns P i = some r) :
  Calls Tryz.prog 100 #[.slice A ns.length c, .int .i64 P, .int .i64 i] w fun e w' => e = .returned (.int .i64 r) ∧ Below w.heap.size w w' := by
 obtain ⟨l, h1, h2⟩ := Option.bind_eq_some_iff.1 h
 clear h
 split at h2
 case isFalse => cases h2
 rename_i hi
 obtain ⟨hi0, hi1⟩ := hi
 have HR := am hr
 go_enter Tryz.func100, Tryz.ntmps100
 go_wp2_with fail
 refine (spec_l4KidsOf.calls k A c ns P l w hr hc h1).mono ?_
 rintro e w1 ⟨v, rfl, hR, hb1⟩
 obtain ⟨A1, c1, rfl⟩ := Kd.R_slice hR
 have H1 := am (And.intro hR hb1)
 clear hR hb1 hr h1
 split at h2
 ·rename_i hl
  split at h2
  case isFalse => cases h2
  rename_i hq
  obtain ⟨hq0, hq1⟩ := hq
  have d15 := decide_eq_true hl
  have e3 := eq_true (show 0 ≤ i + 1 from by omega)
  have e4 := eq_true hl
  obtain ⟨ad, hA, hx⟩ := Kd.at_int (Kd.R_reads' H1.out.1).2.2 (i + 1) (by omega) hl
  subst hA
  generalize rd l (i + 1) = q at hx hq0 hq1 h2
  have e5 := eq_true hq0
  have e6 := eq_true hq1
  obtain ⟨ad2, A3, c3, hA, hx0, _, _, _, _, _, _, _⟩ := at_T95 (Kd.C_below HR.out H1.out.2) q hq0 hq1
  subst hA
  have HE := am (Option.some.inj h2)
  clear h2 hl hq0 hq1
  go_wp2
  go_ret
  rw [← HE.out]
  exact ⟨rfl, H1.out.2⟩
 ·rename_i hl
  have d15 := decide_eq_false hl
  have HE := am (Option.some.inj h2)
  clear h2 hl
  go_wp2
  go_ret
  rw [← HE.out]
  exact ⟨rfl, H1.out.2⟩
def placeI (ns : List S95) : Nat → Int → Option Int
 | 0, k => some k
 | n + 1, k => (spec_l3Skip.f 0 ns k).bind (placeI ns n)
def spec_l5Place.f (k : Nat) (ns : List S95) (p i : Int) : Option Int := if 0 ≤ p ∧ p < 1073741824 ∧ 0 ≤ i ∧ i < 4611686018427387904 then placeI ns i.toNat (p + 1) else none
theorem spec_l5Place.calls (k : Nat) (A : Option Addr) (c : Nat) (ns : List S95) (p i r : Int) (w : World) (hr : Kd.C k95 w A ns.length ns) (hc : ns.length ≤ c) (h : spec_l5Place.f k ns p i = some r) :
  Calls Tryz.prog 98 #[.slice A ns.length c, .int .i64 p, .int .i64 i] w fun e w' => e = .returned (.int .i64 r) ∧ Below w.heap.size w w' := by
 unfold spec_l5Place.f at h
 split at h
 case isFalse => cases h
 rename_i hi
 obtain ⟨hp0, hp1, hi0, hi1⟩ := hi
 obtain ⟨n, rfl⟩ := Int.eq_ofNat_of_zero_le hi0
 rw [Int.toNat_natCast] at h
 obtain ⟨big, hbig⟩ : ∃ big : Int, big = 4611686018427387904 := ⟨_, rfl⟩
 have hnb : (n : Int) < big := by omega
 have hb9 : big ≤ 4611686018427387904 := by omega
 have HX := am (And.intro hr (And.intro h hnb))
 clear hr h hi0 hi1 hbig hnb
 go_enter Tryz.func98, Tryz.ntmps98
 go_wp2
 go_loopg [2, 7] (n + 1) (fun kq v2 v7 wr => ∃ (m : Nat) (q : Int), v2 = .int .i64 m ∧ v7 = .int .i64 q ∧ Aside0 (m + 1 = kq ∧ m ≤ n ∧ placeI ns m q = some r) ∧ Aside0 (Below w.heap.size w wr))
 case atStart => exact ⟨n, p + 1, rfl, rfl, ⟨rfl, Nat.le_refl _, HX.out.2.1⟩, ⟨Below.refl _ _⟩⟩
 case round =>
  obtain ⟨m, q, rfl, rfl, HI, HB⟩ := hrel
  cases m with
  | zero =>
   have HE := am (show q = r from Option.some.inj HI.out.2.2)
   go_wp2
   go_ret
   rw [HE.out]
   exact ⟨rfl, HB.out⟩
  | succ m =>
   obtain ⟨q2, h1, h2⟩ := Option.bind_eq_some_iff.1 (show (spec_l3Skip.f 0 ns q).bind (placeI ns m) = some r from HI.out.2.2)
   have HS := am (And.intro h1 h2)
   obtain ⟨M, hM⟩ : ∃ M, m + 1 = M := ⟨_, rfl⟩
   have hmb : (M : Int) < big := by have h1 := HI.out.2.1; have h2 := HX.out.2.2; omega
   have d11 : decide (0 < M) = true := decide_eq_true (by omega)
   have HM := am hM
   rw [hM]
   clear h1 h2 hM
   go_wp2_with (first | (go_at_call 65; refine (spec_l3Skip.calls 0 A c ns q q2 _ (Kd.C_below HX.out.1 HB.out) hc HS.out.1).mono ?_; rintro e w3 ⟨rfl, hb3⟩; have HB3 := am (below_step HB.out hb3.below); clear hb3) | fail)
   have hii : (M : Int) - 1 = (m : Int) := by have := HM.out; omega
   go_roundg (gk - 1)
   case measure => have := HI.out.1; omega
   case rel => exact ⟨m, q2, by rw [hii], rfl, ⟨by have := HI.out.1; omega, by have := HI.out.2.1; omega, HS.out.2⟩, HB3⟩
end Go.Proofs.YthjgohbkpjhkeaaGreatDoor.PFnExactDo
