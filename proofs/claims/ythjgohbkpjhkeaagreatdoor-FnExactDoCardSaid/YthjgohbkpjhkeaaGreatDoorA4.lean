/- Part 4 of the proof: GrowLoop, FireRun. -/
import Derived.Test.YthjgohbkpjhkeaaGreatDoorA3
import Derived.Test.YthjgohbkpjhkeaaGreatDoorA2
import Derived.Test.YthjgohbkpjhkeaaGreatDoorA1
set_option linter.unusedVariables false
set_option linter.unusedSimpArgs false
namespace Go.Proofs.YthjgohbkpjhkeaaGreatDoor.Impl
open Go.RowKit Go.Proofs.YthjgohbkpjhkeaaGreatDoorW.PrintWords Go.Proofs.YthjgohbkpjhkeaaGreatDoorW.PrintLast Go.Proofs.YthjgohbkpjhkeaaGreatDoorW.PrintMore Go.Proofs.YthjgohbkpjhkeaaGreatDoor.PFnExactDo Go.Proofs.YthjgohbkpjhkeaaGreatDoor.MapLib Go.Proofs.YthjgohbkpjhkeaaGreatDoor.FireSpec Go.Proofs.YthjgohbkpjhkeaaGreatDoor.Tr
structure GrowPost (ns : List S95) (R : World → Prop) (w0 w w' : World) (base ab lb p e : Nat) (u : Option Addr) (bs : List Nat) (lv : Value) (new : List Nat) (lv' : Value) (KV : Nat → Value) : Prop where
 len : bs.length + new.length = e
 below : Below w0.heap.size w0 w'
 kept : Kept w w' (fun k => k = ab ∨ k = lb ∨ lv.ownBlock = some k)
 at_ : w'.heap[ab]? = some (.cells #[.int .i64 e] 3 (0, 0))
 list : w'.heap[lb]? = some (.cells #[lv'] 96 (0, 0))
 row : PtrRow w' base lv' (bs ++ new)
 moved : lv'.ownBlock = lv.ownBlock ∨ ∃ k, lv'.ownBlock = some k ∧ w.heap.size ≤ k
 laid : Laid ns R w' base (bs ++ new) KV p p e
 root : Twig R w' ((bs ++ new).getD p 0) (ns.getD p z95) (KV p) (.pointer u) 0
 fresh : ∀ j, p ≤ j → j < e → w.heap.size ≤ (bs ++ new).getD j 0 ∧ ∀ k, (KV j).ownBlock = some k → w.heap.size ≤ k ∧ lv'.ownBlock ≠ some k
 order : ∀ j j', p ≤ j → j < j' → j' < e → (bs ++ new).getD j 0 < (bs ++ new).getD j' 0
structure GrowLoop (ns : List S95) (R : World → Prop) (w0 w wr : World) (base ab lb tb b p i q : Nat) (S : Value) (u : Option Addr) (lv : Value) (bl : List Nat) (lvk kvp : Value) (kl : List Nat) (KV : Nat → Value) : Prop where
 pq : E (kids ns) (p + 1) i = some q
 le : i ≤ (kids ns).getD p 0
 len : bl.length = q
 below : Below w0.heap.size w0 wr
 kept : Kept w wr (fun k => k = ab ∨ k = lb ∨ lv.ownBlock = some k)
 at_ : wr.heap[ab]? = some (.cells #[.int .i64 q] 3 (0, 0))
 list : wr.heap[lb]? = some (.cells #[lvk] 96 (0, 0))
 box : wr.heap[tb]? = some (.cells #[S] 31 (0, 0))
 row : PtrRow wr base lvk bl
 moved : lvk.ownBlock = lv.ownBlock ∨ ∃ k, lvk.ownBlock = some k ∧ w.heap.size ≤ k
 tw : Twig R wr b (ns.getD p z95) kvp (.pointer u) 0
 bat : bl.getD p 0 = b
 bnew : w.heap.size ≤ b
 krow : PtrRow wr base kvp kl
 klen : kl.length = i
 kat : ∀ i' c, i' < i → E (kids ns) (p + 1) i' = some c → kl[i']? = some (bl.getD c 0)
 kfresh : ∀ k, kvp.ownBlock = some k → w.heap.size ≤ k ∧ lvk.ownBlock ≠ some k
 laid : Laid ns R wr base bl KV p (p + 1) q
 fresh : ∀ j, p + 1 ≤ j → j < q → w.heap.size ≤ bl.getD j 0 ∧ ∀ k, (KV j).ownBlock = some k → w.heap.size ≤ k ∧ lvk.ownBlock ≠ some k ∧ kvp.ownBlock ≠ some k
 order : ∀ j j', p ≤ j → j < j' → j' < q → bl.getD j 0 < bl.getD j' 0
section
variable {ns : List S95} {R : World → Prop} {w0 w wr w6 w7 w8 w9 : World} {base ab lb tb b p i q e : Nat} {S : Value} {u : Option Addr} {lv : Value} {bl : List Nat} {lvk kvp : Value} {kl : List Nat} {KV KV2 : Nat → Value} {new2 : List Nat} {lv2 : Value}
theorem getD_app {l m : List Nat} {j : Nat} (hj : j < l.length) : (l ++ m).getD j 0 = l.getD j 0 := by
 rw [List.getD_eq_getElem?_getD, List.getD_eq_getElem?_getD, List.getElem?_append_left hj]
theorem GrowLoop.called (h : GrowLoop ns R w0 w wr base ab lb tb b p i q S u lv bl lvk kvp kl KV) (G : GrowPost ns R w0 wr w6 base ab lb q e (some ⟨b, 0, none⟩) bl lvk new2 lv2 KV2) (hqe : q < e) :
  Twig R w6 b (ns.getD p z95) kvp (.pointer u) 0 ∧ PtrRow w6 base kvp kl ∧ w6.heap[tb]? = some (.cells #[S] 31 (0, 0)) ∧ b < (bl ++ new2).getD q 0 ∧ (∀ k, kvp.ownBlock = some k → k < wr.heap.size) := by
 have keep : ∀ k, k < wr.heap.size → k ≠ ab → k ≠ lb → lvk.ownBlock ≠ some k → w6.heap[k]? = wr.heap[k]? := fun k hk h1 h2 h3 => G.kept.2 k hk (by rintro (e | e | e) <;> contradiction)
 have hb : b < wr.heap.size := h.tw.lt
 refine ⟨h.tw.keep (keep b hb (h.tw.ne_typed h.at_ (by decide)) (h.tw.ne_typed h.list (by decide)) (fun e => h.tw.ne_row h.row e.symm)), row_keep h.krow (fun k hk => keep k (row_base h.krow k hk).2 ?_ ?_ (h.kfresh k hk).2), ?_, Nat.lt_of_lt_of_le hb (G.fresh q (Nat.le_refl _) hqe).1, fun k hk => (row_base h.krow k hk).2⟩
 ·intro e; exact row_ne_typed h.krow h.at_ (by decide) (by rw [← e, hk])
 ·intro e; exact row_ne_typed h.krow h.list (by decide) (by rw [← e, hk])
 ·refine (keep tb (blk_lt h.box) (blk_ne h.box h.at_ (by decide)) (blk_ne h.box h.list (by decide)) (fun e => row_ne_typed h.row h.box (by decide) e.symm)).trans h.box
theorem kid_inside {ks : List Nat} {q e j P i : Nat} (he : E ks q 1 = some e) (h1 : q < j) (h2 : j < e) (hK : Kid ks P i j) : q ≤ P := by
 rcases Nat.lt_or_ge P q with h | h
 ·obtain ⟨e', he', hle⟩ := E_inside _ _ _ _ q rfl hK.2.2 (by omega) h1
  rw [he] at he'
  injection he' with he'
  omega
 ·exact h
theorem kid_before {ks : List Nat} {p i q j c i' : Nat} (hq : E ks (p + 1) i = some q) (h1 : p + 1 ≤ j) (h2 : j < q) (hK : Kid ks j i' c) : c < q := by
 obtain ⟨e', he', hle⟩ := E_inside _ _ _ _ j rfl hq h1 h2
 have := hK.end_gt he'
 omega
theorem GrowLoop.next (h : GrowLoop ns R w0 w wr base ab lb tb b p i q S u lv bl lvk kvp kl KV) (hi : i < (kids ns).getD p 0) (hp : p < (kids ns).length) (he : E (kids ns) q 1 = some e)
  (G : GrowPost ns R w0 wr w6 base ab lb q e (some ⟨b, 0, none⟩) bl lvk new2 lv2 KV2) (hb0 : w0.heap.size ≤ base) (hbw : base ≤ w.heap.size) {kb : Nat} (hkb : kb = (bl ++ new2).getD q 0)
  (h7 : w7 = w6.setCell ⟨kb, 8, none⟩ (.int .i64 i)) {kv8 : Value} (r8 : PtrRow w8 base kv8 (kl ++ [kb])) (g8 : w7.grownBy w8 kvp.ownBlock)
  (m8 : kv8.ownBlock = kvp.ownBlock ∨ ∃ k, kv8.ownBlock = some k ∧ w7.heap.size ≤ k) (h9 : w9 = w8.setCell ⟨b, 6, none⟩ kv8) :
  GrowLoop ns R w0 w w9 base ab lb tb b p (i + 1) e S u lv (bl ++ new2) lv2 kv8 (kl ++ [kb]) (fun j => if j < q then KV j else KV2 j) := by
 have hqe : q < e := ((E_bounds he).2 (by omega)).1
 have hpq : p < q := by have := (E_bounds h.pq).1; omega
 obtain ⟨htw6, hkr6, hbox6, hbkb, hkvlt⟩ := h.called G hqe
 rw [← hkb] at hbkb
 have hbl := h.len
 have hkept6 : ∀ k, k < wr.heap.size → k ≠ ab → k ≠ lb → lvk.ownBlock ≠ some k → w6.heap[k]? = wr.heap[k]? := fun k hk h1 h2 h3 => G.kept.2 k hk (by rintro (e | e | e) <;> contradiction)
 have hsz6 : wr.heap.size ≤ w6.heap.size := G.kept.1
 have hszr : w.heap.size ≤ wr.heap.size := h.kept.1
 have hroot : Twig R w6 kb (ns.getD q z95) (KV2 q) (.pointer (some ⟨b, 0, none⟩)) 0 := by rw [hkb]; exact G.root
 have hkbf : wr.heap.size ≤ kb := by rw [hkb]; exact (G.fresh q (Nat.le_refl _) hqe).1
 have hblt : b < wr.heap.size := h.tw.lt
 obtain ⟨Ak, ck, hk1, hk2, hk3⟩ := hroot
 obtain ⟨s7a, s7b, s7c, s7d⟩ := set_block h7 hk3
 have hb7 : w7.heap[b]? = w6.heap[b]? := s7b b (by omega)
 obtain ⟨Ab, cb, hb1, hb2, hb3⟩ := htw6
 have hne_kb_row : kvp.ownBlock ≠ some kb := fun e => by have := hkvlt kb e; omega
 have hne_b_row : kvp.ownBlock ≠ some b := fun e => Twig.ne_row ⟨Ab, cb, hb1, hb2, hb3⟩ hkr6 e.symm
 have hb8 : w8.heap[b]? = some (.cells (twigCells (ns.getD p z95) Ab cb kvp (.pointer u) 0) 99 (0, 0)) :=
  (g8.block b (by rw [s7c]; omega) (fun e => hne_b_row e.symm)).trans (hb7.trans hb3)
 obtain ⟨s9a, s9b, s9c, s9d⟩ := set_block h9 hb8
 have hsz8 : w7.heap.size ≤ w8.heap.size := g8.size
 have keep9 : ∀ k, k < w6.heap.size → k ≠ kb → k ≠ b → kvp.ownBlock ≠ some k → w9.heap[k]? = w6.heap[k]? := fun k hk n1 n2 n3 =>
  (s9b k n2).trans ((g8.block k (by rw [s7c]; exact hk) (fun e => n3 e.symm)).trans (s7b k n1))
 have hkb9 : w9.heap[kb]? = some (.cells (twigCells (ns.getD q z95) Ak ck (KV2 q) (.pointer (some ⟨b, 0, none⟩)) i) 99 (0, 0)) :=
  (s9b kb (by omega)).trans ((g8.block kb (by rw [s7c]; exact blk_lt hk3) (fun e => hne_kb_row e.symm)).trans s7a)
 have hb9 : w9.heap[b]? = some (.cells (twigCells (ns.getD p z95) Ab cb kv8 (.pointer u) 0) 99 (0, 0)) := s9a
 have tkb6 : Twig R w6 kb (ns.getD q z95) (KV2 q) (.pointer (some ⟨b, 0, none⟩)) 0 := ⟨Ak, ck, hk1, hk2, hk3⟩
 have tb6 : Twig R w6 b (ns.getD p z95) kvp (.pointer u) 0 := ⟨Ab, cb, hb1, hb2, hb3⟩
 have typed9 : ∀ (g t : Nat) (cs : Array Value), w6.heap[g]? = some (.cells cs t (0, 0)) → t ≠ 99 → t ≠ 97 → w9.heap[g]? = some (.cells cs t (0, 0)) := fun g t cs hg h1 h2 =>
  (keep9 g (blk_lt hg) (fun e => tkb6.ne_typed hg h1 e.symm) (fun e => tb6.ne_typed hg h1 e.symm) (fun e => row_ne_typed hkr6 hg h2 e.symm)).trans hg
 have hlv2 : ∀ k, k < wr.heap.size → lvk.ownBlock ≠ some k → lv2.ownBlock ≠ some k := fun k hk h1 h2 => by
  rcases G.moved with e | ⟨k', e, hk'⟩
  ·rw [e] at h2; exact h1 h2
  ·rw [e] at h2; injection h2 with h2; omega
 have hkv8 : ∀ k, k < w6.heap.size → kvp.ownBlock ≠ some k → kv8.ownBlock ≠ some k := fun k hk h1 h2 => by
  rcases m8 with e | ⟨k', e, hk'⟩
  ·rw [e] at h2; exact h1 h2
  ·rw [e] at h2; injection h2 with h2; omega
 have row9 : ∀ (v : Value) (l : List Nat), PtrRow w6 base v l → (∀ k, v.ownBlock = some k → kvp.ownBlock ≠ some k) → PtrRow w9 base v l := fun v l hr h1 =>
  row_keep hr (fun k hk => keep9 k (row_base hr k hk).2 (fun e => tkb6.ne_row hr (by rw [← e, hk])) (fun e => tb6.ne_row hr (by rw [← e, hk])) (h1 k hk))
 have old6 : ∀ j, p + 1 ≤ j → j < q → ∀ (n : S95) (kv up : Value) (pl : Int), Twig R wr (bl.getD j 0) n kv up pl → Twig R w9 (bl.getD j 0) n kv up pl := fun j h1 h2 n kv up pl ht => by
  have hlt := ht.lt
  have ho := h.order p j (Nat.le_refl _) (by omega) h2
  rw [h.bat] at ho
  have ht6 : Twig R w6 (bl.getD j 0) n kv up pl := ht.keep (hkept6 _ hlt (ht.ne_typed h.at_ (by decide)) (ht.ne_typed h.list (by decide)) (fun e => ht.ne_row h.row e.symm))
  exact ht6.keep (keep9 _ (by omega) (by omega) (by omega) (fun e => ht6.ne_row hkr6 e.symm))
 have orow6 : ∀ j, p + 1 ≤ j → j < q → ∀ l, PtrRow wr base (KV j) l → PtrRow w9 base (KV j) l := fun j h1 h2 l hr => by
  have hf := (h.fresh j h1 h2).2
  refine row9 _ _ (row_keep hr (fun k hk => hkept6 k (row_base hr k hk).2 ?_ ?_ (hf k hk).2.1)) (fun k hk => (hf k hk).2.2)
  ·intro e; exact row_ne_typed hr h.at_ (by decide) (by rw [← e, hk])
  ·intro e; exact row_ne_typed hr h.list (by decide) (by rw [← e, hk])
 have app : ∀ j, j < q → (bl ++ new2).getD j 0 = bl.getD j 0 := fun j hj => getD_app (by omega)
 refine ⟨?_, by omega, by rw [List.length_append]; have := G.len; omega, ?_, ?_, typed9 ab _ _ G.at_ (by decide) (by decide), typed9 lb _ _ G.list (by decide) (by decide), typed9 tb _ _ hbox6 (by decide) (by decide), ?_, ?_, ⟨Ab, cb, hb1, hb2, hb9⟩, by rw [app p hpq]; exact h.bat, h.bnew, ?_, by simp [h.klen], ?_, ?_, ?_, ?_, ?_⟩
 ·rw [E_add, h.pq]; exact he
 ·have hw7 := s7d _ _ G.below (by have := h.below.size; omega)
  have hw8 : Below w0.heap.size w0 w8 := hw7.grown g8 (by have := hw7.size; omega) (fun k hk => by have := (row_base hkr6 k hk).1; omega)
  exact s9d _ _ hw8 (by have := h.bnew; omega)
 ·refine ⟨by omega, fun k hk hS => ?_⟩
  have hS' : k ≠ ab ∧ k ≠ lb ∧ lv.ownBlock ≠ some k := ⟨fun e => hS (.inl e), fun e => hS (.inr (.inl e)), fun e => hS (.inr (.inr e))⟩
  have hl : lvk.ownBlock ≠ some k := fun e => by
   rcases h.moved with e' | ⟨k', e', hk'⟩
   ·rw [e'] at e; exact hS'.2.2 e
   ·rw [e'] at e; injection e with e; omega
  have hbn := h.bnew
  exact (keep9 k (by omega) (by omega) (by omega) (fun e => by have := (h.kfresh k e).1; omega)).trans ((hkept6 k (by omega) hS'.1 hS'.2.1 hl).trans (h.kept.2 k hk hS))
 ·refine row9 _ _ G.row (fun k hk e => ?_)
  exact hlv2 k (hkvlt k e) (h.kfresh k e).2 hk
 ·rcases G.moved with e1 | ⟨k, e1, hk⟩
  ·rw [e1]; exact h.moved
  ·exact .inr ⟨k, e1, by omega⟩
 ·exact row_keep r8 (fun k hk => s9b k (fun e => Twig.ne_row (R := R) ⟨Ab, cb, hb1, hb2, hb8⟩ r8 (by rw [← e, hk])))
 ·intro i' c hi' hc
  rcases Nat.lt_or_ge i' i with h1 | h1
  ·rw [List.getElem?_append_left (by rw [h.klen]; exact h1), app c (E_lt hc h.pq h1)]
   exact h.kat i' c h1 hc
  ·have : i' = i := by omega
   subst this
   rw [h.pq] at hc
   injection hc with hc
   subst hc
   rw [List.getElem?_append_right (by rw [h.klen]; omega), h.klen, Nat.sub_self, hkb]
   rfl
 ·intro k hk
  rcases m8 with e1 | ⟨k', e1, hk'⟩
  ·rw [e1] at hk
   exact ⟨(h.kfresh k hk).1, hlv2 k (hkvlt k hk) (h.kfresh k hk).2⟩
  ·rw [e1] at hk
   injection hk with hk
   refine ⟨by omega, fun e2 => ?_⟩
   have := (row_base G.row k e2).2
   omega
 ·refine ⟨fun j h1 h2 => ?_, fun j h1 h2 => ?_, fun j j' h1 h2 h3 h4 hne => ?_⟩
  ·rcases Nat.lt_or_ge j q with hj | hj
   ·obtain ⟨up, pl, ht, hP⟩ := h.laid.twig j h1 hj
    refine ⟨up, pl, ?_, fun P i' hl hK => ?_⟩
    ·rw [app j hj]; simp only [hj, if_true]; exact old6 j h1 hj _ _ _ _ ht
    ·rw [app P (by have := hK.lt; omega)]; exact hP P i' hl hK
   ·have hnj : ¬ j < q := by omega
    simp only [hnj, if_false]
    rcases Nat.eq_or_lt_of_le hj with e1 | e1
    ·subst e1
     refine ⟨.pointer (some ⟨b, 0, none⟩), i, by rw [← hkb]; exact ⟨Ak, ck, hk1, hk2, hkb9⟩, fun P i' hl hK => ?_⟩
     obtain ⟨rfl, rfl⟩ := hK.unique (⟨hp, hi, h.pq⟩ : Kid (kids ns) p i q)
     exact ⟨by rw [app P hpq, h.bat]; rfl, rfl⟩
    ·obtain ⟨up, pl, ht, hP⟩ := G.laid.twig j hj h2
     have ho := G.order q j (Nat.le_refl _) e1 h2
     rw [← hkb] at ho
     refine ⟨up, pl, ht.keep (keep9 _ ht.lt (by omega) (by omega) (fun e => ht.ne_row hkr6 e.symm)), fun P i' hl hK => hP P i' (kid_inside he e1 h2 hK) hK⟩
  ·rcases Nat.lt_or_ge j q with hj | hj
   ·obtain ⟨l, hr, hl, hkk⟩ := h.laid.row j h1 hj
    simp only [hj, if_true]
    refine ⟨l, orow6 j h1 hj l hr, hl, fun i' c hK => ?_⟩
    rw [app c (kid_before h.pq h1 hj hK)]
    exact hkk i' c hK
   ·have hnj : ¬ j < q := by omega
    simp only [hnj, if_false]
    obtain ⟨l, hr, hkk⟩ := G.laid.row j hj h2
    exact ⟨l, row9 _ _ hr (fun k hk e => by have := ((G.fresh j hj h2).2 k hk).1; have := hkvlt k e; omega), hkk⟩
  ·rcases Nat.lt_or_ge j q with hj | hj <;> rcases Nat.lt_or_ge j' q with hj' | hj'
   ·simp only [hj, hj', if_true]; exact h.laid.apart j j' h1 hj h3 hj' hne
   ·have hnj : ¬ j' < q := by omega
    simp only [hj, hnj, if_true, if_false]
    rcases ho : (KV j).ownBlock with _ | k
    ·exact .inl rfl
    ·refine .inr (fun e => ?_)
     obtain ⟨l, hr, _⟩ := h.laid.row j h1 hj
     have := (row_base hr k ho).2
     have := ((G.fresh j' hj' h4).2 k e.symm).1
     omega
   ·have hnj : ¬ j < q := by omega
    simp only [hj', hnj, if_true, if_false]
    rcases ho : (KV2 j).ownBlock with _ | k
    ·exact .inl rfl
    ·refine .inr (fun e => ?_)
     obtain ⟨l, hr, _⟩ := h.laid.row j' h3 hj'
     have := (row_base hr k e.symm).2
     have := ((G.fresh j hj h2).2 k ho).1
     omega
   ·have hnj : ¬ j < q := by omega
    have hnj' : ¬ j' < q := by omega
    simp only [hnj, hnj', if_false]
    exact G.laid.apart j j' hj h2 hj' h4 hne
 ·intro j h1 h2
  rcases Nat.lt_or_ge j q with hj | hj
  ·have hf := h.fresh j h1 hj
   obtain ⟨l, hr, _⟩ := h.laid.row j h1 hj
   simp only [hj, if_true]
   refine ⟨by rw [app j hj]; exact hf.1, fun k hk => ?_⟩
   have hk6 := (row_base hr k hk).2
   exact ⟨(hf.2 k hk).1, hlv2 k hk6 (hf.2 k hk).2.1, hkv8 k (by omega) (hf.2 k hk).2.2⟩
  ·have hnj : ¬ j < q := by omega
   have hf := G.fresh j hj h2
   obtain ⟨l, hr, _⟩ := G.laid.row j hj h2
   simp only [hnj, if_false]
   refine ⟨by omega, fun k hk => ?_⟩
   have hk6 := (row_base hr k hk).2
   have hk0 := (hf.2 k hk).1
   exact ⟨by omega, (hf.2 k hk).2, hkv8 k hk6 (fun e => by have := hkvlt k e; omega)⟩
 ·intro j j' h1 h2 h3
  rcases Nat.lt_or_ge j' q with hj' | hj'
  ·rw [app j (by omega), app j' hj']; exact h.order j j' h1 h2 hj'
  ·rcases Nat.lt_or_ge j q with hj | hj
   ·have hlt : bl.getD j 0 < wr.heap.size := by
     rcases Nat.eq_or_lt_of_le h1 with e1 | e1
     ·rw [← e1, h.bat]; exact hblt
     ·obtain ⟨up, pl, ht, _⟩ := h.laid.twig j e1 hj; exact ht.lt
    have := (G.fresh j' hj' h3).1
    rw [app j hj]
    omega
   ·exact G.order j j' hj h2 h3
theorem GrowLoop.done {bs new : List Nat} (h : GrowLoop ns R w0 w wr base ab lb tb b p ((kids ns).getD p 0) e S u lv (bs ++ new) lvk kvp kl KV) (hp : p < (kids ns).length) :
  GrowPost ns R w0 w wr base ab lb p e u bs lv new lvk (fun j => if j = p then kvp else KV j) := by
 have hne : ∀ j, p ≤ j → j ≠ p → p + 1 ≤ j := fun j h1 h2 => by omega
 refine ⟨by have := h.len; simpa using this, h.below, h.kept, h.at_, h.list, h.row, h.moved, ⟨fun j h1 h2 => ?_, fun j h1 h2 => ?_, fun j j' h1 h2 h3 h4 hn => ?_⟩, ?_, fun j h1 h2 => ?_, h.order⟩
 ·by_cases e1 : j = p
  ·subst e1
   refine ⟨.pointer u, 0, by simp only [if_true]; rw [h.bat]; exact h.tw, fun P i hl hK => ?_⟩
   have := hK.lt
   omega
  ·obtain ⟨up, pl, ht, hP⟩ := h.laid.twig j (hne j h1 e1) h2
   exact ⟨up, pl, by simp only [e1, if_false]; exact ht, hP⟩
 ·by_cases e1 : j = p
  ·subst e1
   exact ⟨kl, by simp only [if_true]; exact h.krow, h.klen, fun i c hK => h.kat i c hK.2.1 hK.2.2⟩
  ·obtain ⟨l, hr, hl⟩ := h.laid.row j (hne j h1 e1) h2
   exact ⟨l, by simp only [e1, if_false]; exact hr, hl⟩
 ·by_cases e1 : j = p
  ·have e2 : j' ≠ p := fun e2 => hn (e1.trans e2.symm)
   simp only [e1, e2, if_true, if_false]
   rcases ho : kvp.ownBlock with _ | k
   ·exact .inl rfl
   ·exact .inr (fun e3 => ((h.fresh j' (hne j' h3 e2) h4).2 k e3.symm).2.2 ho)
  ·by_cases e2 : j' = p
   ·simp only [e1, e2, if_true, if_false]
    rcases ho : (KV j).ownBlock with _ | k
    ·exact .inl rfl
    ·exact .inr (fun e3 => ((h.fresh j (hne j h1 e1) h2).2 k ho).2.2 e3.symm)
   ·simp only [e1, e2, if_false]
    exact h.laid.apart j j' (hne j h1 e1) h2 (hne j' h3 e2) h4 hn
 ·simp only [if_true]; rw [h.bat]; exact h.tw
 ·by_cases e1 : j = p
  ·subst e1
   simp only [if_true]
   exact ⟨by rw [h.bat]; exact h.bnew, h.kfresh⟩
  ·simp only [e1, if_false]
   have := h.fresh j (hne j h1 e1) h2
   exact ⟨this.1, fun k hk => ⟨(this.2 k hk).1, (this.2 k hk).2.1⟩⟩
end
end Go.Proofs.YthjgohbkpjhkeaaGreatDoor.Impl
namespace Go.Proofs.YthjgohbkpjhkeaaGreatDoor.FireSpec
open Go.RowKit Go.Proofs.YthjgohbkpjhkeaaGreatDoorW.PrintWords Go.Proofs.YthjgohbkpjhkeaaGreatDoor.PFnExactDo Go.Proofs.YthjgohbkpjhkeaaGreatDoor.Tr
def place (ns : List Node) (id : Int) : Option Nat := ns.findIdx? (fun n => decide (n.f0 = id))
theorem at_f (ns : List Node) (id : Int) (hb : ns.length < 2 ^ 62) : Ev (fun k => spec_l4At.f k ns id) (match place ns id with | some j => (j : Int) | none => -1) := by
 refine Ev.same (Ev.const _) fun k => ?_
 rw [spec_l4At.f, fstI_idx]
 unfold place
 rw [show (fun n : Node => n.f0 == id) = fun n => decide (n.f0 = id) from by funext n; rw [Bool.eq_iff_iff]; simp]
 cases ns.findIdx? (fun n => decide (n.f0 = id)) <;> simp
def Under (ks : List Nat) : List (Nat × Nat) → Nat → Prop
 | [], P => P = 0
 | (P2, i2) :: r, P => 0 < i2 ∧ Kid ks P2 (i2 - 1) P ∧ Under ks r P2
def Open (ks : List Nat) : List (Nat × Nat) → Nat → Prop
 | [], _ => True
 | (P, i) :: r, j => P < ks.length ∧ i ≤ ks.getD P 0 ∧ E ks (P + 1) i = some j ∧ Under ks r P
def leftOf (ks : List Nat) (f : Nat × Nat) : Nat := ks.getD f.1 0 - f.2
theorem Open.pop {ks : List Nat} {P i j : Nat} {r : List (Nat × Nat)} (h : Open ks ((P, i) :: r) j) (h0 : leftOf ks (P, i) = 0) : Open ks r j ∧ (r = [] → E ks 0 1 = some j) := by
 obtain ⟨hP, hi, hE, hU⟩ := h
 have hi' : i = ks.getD P 0 := by simp only [leftOf] at h0; omega
 have hone : E ks P 1 = some j := by rw [E_step (m := 0) hP, Nat.add_zero, ← hi']; exact hE
 cases r with
 | nil => exact ⟨trivial, fun _ => by obtain rfl : P = 0 := hU; exact hone⟩
 | cons f r =>
  obtain ⟨P2, i2⟩ := f
  obtain ⟨h2, ⟨k1, k2, k3⟩, hU2⟩ := hU
  refine ⟨⟨k1, by omega, ?_, hU2⟩, fun h => by cases h⟩
  rw [show i2 = (i2 - 1) + 1 from by omega, E_add, k3]
  exact hone
theorem Open.push {ks : List Nat} {P i j : Nat} {r : List (Nat × Nat)} (h : Open ks ((P, i) :: r) j) (h0 : 0 < leftOf ks (P, i)) (hj : j < ks.length) : Open ks ((j, 0) :: (P, i + 1) :: r) (j + 1) ∧ Kid ks P i j := by
 obtain ⟨hP, hi, hE, hU⟩ := h
 simp only [leftOf] at h0
 have hK : Kid ks P i j := ⟨hP, by omega, hE⟩
 exact ⟨⟨hj, Nat.zero_le _, E_zero _ _, by omega, by simpa using hK, hU⟩, hK⟩
theorem kids_at {ns : List Node} {i : Nat} (hi : i < ns.length) : (kids ns).getD i 0 = kid ns[i] := by
 rw [List.getD_eq_getElem?_getD, kids, List.getElem?_map, List.getElem?_eq_getElem hi]; rfl
def popF (ks : List Nat) : List (Nat × Nat) → List (Nat × Nat)
 | [] => []
 | f :: r => if leftOf ks f = 0 then popF ks r else f :: r
theorem popF_open {ks : List Nat} {j : Nat} : ∀ F : List (Nat × Nat), Open ks F j → Open ks (popF ks F) j ∧ (popF ks F = [] → F ≠ [] → E ks 0 1 = some j)
 | [], h => ⟨h, fun _ h => absurd rfl h⟩
 | (P, i) :: r, h => by
  unfold popF
  split
  ·rename_i h0
   obtain ⟨h1, h2⟩ := h.pop h0
   obtain ⟨h3, h4⟩ := popF_open r h1
   refine ⟨h3, fun he _ => ?_⟩
   cases r with
   | nil => exact h2 rfl
   | cons f r => exact h4 he (by simp)
  ·exact ⟨h, fun h => by cases h⟩
theorem popF_length (ks : List Nat) : ∀ F : List (Nat × Nat), (popF ks F).length ≤ F.length
 | [] => Nat.le_refl _
 | f :: r => by
  unfold popF
  split
  ·have := popF_length ks r; simp; omega
  ·exact Nat.le_refl _
theorem popF_head (ks : List Nat) : ∀ (F : List (Nat × Nat)) (f : Nat × Nat) (r : List (Nat × Nat)), popF ks F = f :: r → 0 < leftOf ks f
 | [], _, _, h => by cases h
 | g :: s, f, r, h => by
  unfold popF at h
  split at h
  ·exact popF_head ks s f r h
  ·injection h with h1 h2
   subst h1
   omega
def stackOf (F : List (Nat × Nat)) : List Int := ints (F.map (·.1))
def leftsOf (ks : List Nat) (F : List (Nat × Nat)) : List Int := ints (F.map (leftOf ks))
theorem stackOf_cons (f : Nat × Nat) (F : List (Nat × Nat)) : stackOf (f :: F) = stackOf F ++ [(f.1 : Int)] := ints_cons _ _
theorem leftsOf_cons (ks : List Nat) (f : Nat × Nat) (F : List (Nat × Nat)) : leftsOf ks (f :: F) = leftsOf ks F ++ [(leftOf ks f : Int)] := ints_cons _ _
theorem stackOf_length (F : List (Nat × Nat)) : (stackOf F).length = F.length := by simp [stackOf, ints]
theorem leftsOf_length (ks : List Nat) (F : List (Nat × Nat)) : (leftsOf ks F).length = F.length := by simp [leftsOf, ints]
def ParsFrom (ks : List Nat) (res : List Int) (j n : Nat) : Prop := ∀ j', j ≤ j' → j' < n → (j' = 0 → res.getD j' 0 = -1) ∧ (0 < j' → ∃ P i, Kid ks P i j' ∧ res.getD j' 0 = (P : Int))
end Go.Proofs.YthjgohbkpjhkeaaGreatDoor.FireSpec
