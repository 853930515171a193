/- Part 6 of the proof: DoCount, DoRun, DoDelT, DoTake, DoErr, DoErrW. -/
import Derived.Test.YthjgohbkpjhkeaaGreatDoorA1
import Derived.Test.YthjgohbkpjhkeaaGreatDoorA5
import Derived.Laws.IdiomCopy
import Derived.Lib.SliceRun
import Derived.Lib.AppendZerosOnto
import Derived.Shelf.Spec.SlicesInsert
import Derived.Test.YthjgohbkpjhkeaaGreatDoorA3
import Derived.Deep.RegionLaw
import Derived.Deep.LoopGhost
import Derived.Lib.Walk
import Derived.Deep.RegionWith
import Derived.Test.YthjgohbkpjhkeaaGreatDoorProg
import Derived.WalkKit
import Derived.LaidEql
import Derived.Stop.Asserts
import Derived.RowKitTokens
import Derived.Below
set_option linter.unusedVariables false
set_option linter.unusedSimpArgs false
set_option maxHeartbeats 4000000
set_option maxRecDepth 100000
namespace Go.Proofs.YthjgohbkpjhkeaaGreatDoor.Impl
open Go.RowKit Go.Proofs.YthjgohbkpjhkeaaGreatDoorW.PrintWords Go.Proofs.YthjgohbkpjhkeaaGreatDoorW.PrintLast Go.Proofs.YthjgohbkpjhkeaaGreatDoorW.PrintMore Go.Proofs.YthjgohbkpjhkeaaGreatDoor.PFnExactDo Go.Proofs.YthjgohbkpjhkeaaGreatDoor.MapLib Go.Proofs.YthjgohbkpjhkeaaGreatDoor.FireSpec Go.Proofs.YthjgohbkpjhkeaaGreatDoor.Tr Go.Proofs.YthjgohbkpjhkeaaGreatDoor.Fo
abbrev TwigB (w : World) (b : Nat) (n : S95) (A : Option Addr) (c : Nat) (kv up : Value) (pl : Int) : Prop := w.heap[b]? = some (.cells (twigCells n A c kv up pl) 99 (0, 0))
def withKids (n : S95) (m : Nat) : S95 := ⟨n.f0, n.f1, n.f2, n.f3, n.f4, (m : Int)⟩
structure Cnt (w wr : World) (b : Nat) (n : S95) (A : Option Addr) (c : Nat) (kv up : Value) (pl : Int) (bs : List Nat) (j : Nat) : Prop where
 size : wr.heap.size = w.heap.size
 far : ∀ k, k ≠ b → (∀ i, i < j → k ≠ bs.getD i 0) → wr.heap[k]? = w.heap[k]?
 own : TwigB wr b (withKids n bs.length) A c kv up pl
 done : ∀ i, i < j → ∀ n A c kv up pl, TwigB w (bs.getD i 0) n A c kv up pl → TwigB wr (bs.getD i 0) n A c kv (ptr b) (i : Int)
 below : ∀ B, B ≤ b → (∀ k ∈ bs, B ≤ k) → Below B w wr
theorem Cnt.next {w wr w2 : World} {b : Nat} {n : S95} {A : Option Addr} {c : Nat} {kv up : Value} {pl : Int} {bs : List Nat} {j : Nat} (h : Cnt w wr b n A c kv up pl bs j) (hj : j < bs.length) (hd : bs.Nodup) (hb : b ∉ bs)
  {n1 : S95} {A1 : Option Addr} {c1 : Nat} {kv1 up1 : Value} {pl1 : Int} (hk : TwigB w (bs.getD j 0) n1 A1 c1 kv1 up1 pl1) (h2 : w2 = (wr.setCell ⟨bs.getD j 0, 8, none⟩ (.int .i64 j)).setCell ⟨bs.getD j 0, 7, none⟩ (ptr b)) : Cnt w w2 b n A c kv up pl bs (j + 1) := by
 have hmem : bs.getD j 0 ∈ bs := by rw [List.getD_eq_getElem?_getD, List.getElem?_eq_getElem hj]; exact List.getElem_mem hj
 have hne : bs.getD j 0 ≠ b := fun e => hb (e ▸ hmem)
 have hdj : ∀ i, i < bs.length → i ≠ j → bs.getD i 0 ≠ bs.getD j 0 := fun i hi hij e => by
  rw [List.getD_eq_getElem?_getD, List.getD_eq_getElem?_getD, List.getElem?_eq_getElem hi, List.getElem?_eq_getElem hj] at e
  exact hij ((List.getElem_inj hd).1 (by simpa using e))
 have hkr : TwigB wr (bs.getD j 0) n1 A1 c1 kv1 up1 pl1 := (h.far _ hne (fun i hi => (hdj i (by omega) (by omega)).symm)).trans hk
 obtain ⟨wa, hwa⟩ : ∃ wa, wa = wr.setCell ⟨bs.getD j 0, 8, none⟩ (.int .i64 j) := ⟨_, rfl⟩
 rw [← hwa] at h2
 obtain ⟨a1, a2, a3, a4⟩ := set_block hwa hkr
 obtain ⟨b1, b2, b3, b4⟩ := set_block h2 a1
 refine ⟨by rw [b3, a3]; exact h.size, fun k h1 h3 => ?_, ?_, fun i hi n A c kv up pl ht => ?_, fun B hB hB2 => b4 _ _ (a4 _ _ (h.below B hB hB2) (hB2 _ hmem)) (hB2 _ hmem)⟩
 ·have hkj := h3 j (by omega)
  exact ((b2 k hkj).trans (a2 k hkj)).trans (h.far k h1 (fun i hi => h3 i (by omega)))
 ·exact ((b2 b (fun e => hne e.symm)).trans (a2 b (fun e => hne e.symm))).trans h.own
 ·rcases Nat.lt_or_ge i j with hlt | hge
  ·have hij := hdj i (by omega) (by omega)
   exact ((b2 _ hij).trans (a2 _ hij)).trans (h.done i hlt n A c kv up pl ht)
  ·obtain rfl : i = j := by omega
   have e : twigCells n A c kv up pl = twigCells n1 A1 c1 kv1 up1 pl1 := by
    have h5 : w.heap[bs.getD i 0]? = _ := ht
    rw [hk] at h5
    injection h5 with h5
    injection h5 with h5 _
    exact h5.symm
   show w2.heap[bs.getD i 0]? = _
   rw [b1]
   have e2 : ((twigCells n1 A1 c1 kv1 up1 pl1).setIfInBounds 8 (.int .i64 i)).setIfInBounds 7 (ptr b) = twigCells n A c kv (ptr b) (i : Int) := by
    rw [← e]
    rfl
   rw [e2]
theorem count_calls (w : World) (base b : Nat) (n : S95) (A : Option Addr) (c : Nat) (kv up : Value) (pl : Int) (bs : List Nat) (hx : TwigB w b n A c kv up pl) (hrow : PtrRow w base kv bs) (hkids : ∀ k ∈ bs, ∃ n A c kv up pl, TwigB w k n A c kv up pl) (hd : bs.Nodup) (hb : b ∉ bs) (hn : bs.length ≤ 1000000000) :
  Calls Tryz.prog 143 #[ptr b] w fun e w' => e = .returned (.tuple #[]) ∧ Cnt w w' b n A c kv up pl bs bs.length := by
 have huw := Tryz.underlying99
 have hun := Tryz.underlying95
 obtain ⟨Ak, ck, rfl⟩ := Kd.R_slice hrow
 obtain ⟨⟨hx0, hx1, hx2, hx3, hx4, hx5⟩, hx6, hx7, hx8, hxf⟩ := twig_cells hx
 have hn' : (bs.length : Int) ≤ 1000000000 := by omega
 have HALL := am (And.intro hkids (And.intro hd hb))
 have HX := am hx
 have HROW := am hrow
 clear hx hrow hkids hd hb hx0 hx1 hx2 hx3 hx4 hx7 hx8
 unfold ptr
 go_enter Tryz.func143, Tryz.ntmps143
 go_wp2_with (first | ((with_reducible refine gate_store (t := 3) (p := 12) rfl ?_); refine store_event (t := 3) (p := 12) (v := ?vo) (w1 := w.setCell ⟨b, 5, none⟩ (.int .i64 bs.length)) ?hg ?ho ?hn ?hr ?_; (case ho => rfl); (case hg => rfl); (case hn => rfl); (case hr => first | (go_simp; done) | (go_simp; rfl)); intro w1 hw1; have H1 := am (set_block hw1 HX.out); clear hw1 hx5 hx6 hxf; have hc6 : w1.cell? ⟨b, 6, none⟩ = some (.slice Ak bs.length ck) := blk_cell H1.out.1 6))
 have hc0 : Cnt w w1 b n A c (.slice Ak bs.length ck) up pl bs 0 :=
  ⟨H1.out.2.2.1, fun k h1 _ => H1.out.2.1 k h1, H1.out.1, fun i hi => by omega, fun B hB _ => H1.out.2.2.2 B w (Below.refl _ _) hB⟩
 have HC0 := am hc0
 have HRR := am (show ∀ (wr : World) (j : Nat), j ≤ bs.length → Cnt w wr b n A c (.slice Ak bs.length ck) up pl bs j → PtrRow wr base (.slice Ak bs.length ck) bs from fun wr j hj hc => row_keep HROW.out (fun k hk => by
  obtain ⟨cs, ht⟩ := row_typed HROW.out k hk
  refine hc.far k (fun e => ?_) (fun i hi e => ?_)
  ·rw [e, HX.out] at ht
   injection ht with ht
   injection ht with _ ht
   exact absurd ht (by decide)
  ·have hmem : bs.getD i 0 ∈ bs := by rw [List.getD_eq_getElem?_getD, List.getElem?_eq_getElem (by omega)]; exact List.getElem_mem (by omega)
   obtain ⟨n1, A1, c1, kv1, up1, pl1, h1⟩ := HALL.out.1 _ hmem
   rw [e, h1] at ht
   injection ht with ht
   injection ht with _ ht
   exact absurd ht (by decide)))
 clear hc0 hc6 H1
 go_loopg [18] (bs.length + 1) (fun kq v18 wr => ∃ j : Nat, v18 = .int .i64 j ∧ Aside0 (j + kq = bs.length + 1 ∧ j ≤ bs.length) ∧ Aside0 (Cnt w wr b n A c (.slice Ak bs.length ck) up pl bs j))
 case atStart => exact ⟨0, rfl, ⟨by omega, by omega⟩, HC0⟩
 case round =>
  clear HC0
  obtain ⟨j, rfl, HJ, HCj⟩ := hrel
  by_cases hlt : j < bs.length
  ·obtain ⟨g, cap, e, _⟩ := Kd.R_form HROW.out (by omega)
   injection e with e1 _ e3
   subst e1
   subst e3
   obtain ⟨kb, hkb⟩ : ∃ kb, kb = bs.getD j 0 := ⟨_, rfl⟩
   have hcell : wr.cell? ⟨g, j, none⟩ = some (.pointer (some ⟨kb, 0, none⟩)) := by
    have := (Kd.R_cell (0 : Nat) (HRR.out wr j HJ.out.2 HCj.out) (j : Int) (by omega) (by omega)).1
    rw [Int.toNat_natCast] at this
    rw [this, hkb]
    rfl
   have hmem : kb ∈ bs := by rw [hkb, List.getD_eq_getElem?_getD, List.getElem?_eq_getElem hlt]; exact List.getElem_mem hlt
   obtain ⟨n1, A1, c1, kv1, up1, pl1, h1⟩ := HALL.out.1 _ hmem
   have hkr : TwigB wr kb n1 A1 c1 kv1 up1 pl1 := (HCj.out.far kb (fun e => HALL.out.2.2 (e ▸ hmem)) (fun i hi e => by
    rw [hkb, List.getD_eq_getElem?_getD, List.getD_eq_getElem?_getD, List.getElem?_eq_getElem hlt, List.getElem?_eq_getElem (by omega)] at e
    have := (List.getElem_inj HALL.out.2.1).1 (by simpa using e)
    omega)).trans h1
   obtain ⟨_, hk6, hk7, hk8, hkf⟩ := twig_cells hkr
   have hf7 := hkf 7
   have hf8 := hkf 8
   have hd1 : decide ((j : Int) < (bs.length : Int)) = true := decide_eq_true (by omega)
   have hd2 : decide (j < bs.length) = true := decide_eq_true hlt
   have hj62 : (j : Int) ≤ 1000000000 := by omega
   have HN := am (show ∀ w2, w2 = (wr.setCell ⟨kb, 8, none⟩ (.int .i64 j)).setCell ⟨kb, 7, none⟩ (ptr b) → Cnt w w2 b n A c (.slice (some ⟨g, 0, none⟩) bs.length ck) up pl bs (j + 1) from fun w2 h2 => by subst hkb; exact HCj.out.next hlt HALL.out.2.1 HALL.out.2.2 h1 h2)
   clear hkb hmem h1 hkr hk6 hkf
   go_wp2
   have hjj : (j : Int) + 1 = ((j + 1 : Nat) : Int) := by omega
   go_roundg (gk - 1)
   case measure => have := HJ.out; omega
   case rel => exact ⟨j + 1, by rw [hjj], ⟨by have := HJ.out; omega, by omega⟩, ⟨HN.out _ rfl⟩⟩
  ·have hjk : j = bs.length := by have := HJ.out; omega
   have hd1 : decide ((j : Int) < (bs.length : Int)) = false := decide_eq_false (by omega)
   have hd2 : decide (j < bs.length) = false := decide_eq_false hlt
   have HE := am (show Cnt w wr b n A c (.slice Ak bs.length ck) up pl bs bs.length by have := HCj.out; rw [hjk] at this; exact this)
   clear hjk hlt
   go_wp2
   go_end0
   exact ⟨rfl, HE.out⟩
end Go.Proofs.YthjgohbkpjhkeaaGreatDoor.Impl
namespace Go.Proofs.YthjgohbkpjhkeaaGreatDoor.Sl
open Go.RowKit Go.Lib Go.Proofs.YthjgohbkpjhkeaaGreatDoorW.PrintWords Go.Proofs.YthjgohbkpjhkeaaGreatDoorW.PrintLast Go.Proofs.YthjgohbkpjhkeaaGreatDoorW.PrintMore Go.Proofs.YthjgohbkpjhkeaaGreatDoor.PFnExactDo
section
variable {P : Program}
theorem run_copy_sz (w : World) (sz : Nat) (dT sT ty elem : TypeId) (b o dLen dCap : Nat) (a : Addr) (sLen sCap : Nat) (cs : List Value)
  (hu : P.underlying dT = some (.slice elem)) (hs : (P.info? elem).map (·.size) = some sz) (hn : cs.length = Nat.min sLen dLen * sz)
  (hsrc : ∀ j v, cs[j]? = some v → w.cell? (a.add j) = some v) (hc : ∀ j, j < cs.length → (w.cell? ⟨b, o + j, none⟩).isSome = true) (hf : ∀ j, j < cs.length → w.frozen? ⟨b, o + j, none⟩ = false) (h1 : ∀ v ∈ cs, v.oneCell' = true) :
  (Builtin.copy_ #[dT, sT] ty #[.slice (some ⟨b, o, none⟩) dLen dCap, .slice (some a) sLen sCap]).run P w = .ok (goInt (Nat.min sLen dLen)) (w.setCells b o cs) := by
 have hl := run_loadCells_list (P := P) w a cs hsrc
 have hst := run_storeCells_cells (P := P) b o cs 0 w (by simpa using hc) (by simpa using hf) h1
 cases hq : P.info? elem with
 | none => simp [hq] at hs
 | some i =>
  have hi : i.size = sz := by simpa [hq] using hs
  simp [Builtin.copy_, run_underlying hu, Builtin.lenOf, Builtin.firstCells, sizeOf, typeInfo, hq, hi, ← hn, hl, hst]
theorem run_clear_sz (w : World) (t e : TypeId) (z : Value) (ht : P.underlying t = some (.slice e)) (hv : ∀ w, (zeroValue e).run P w = .ok z w) (h1 : ∀ u ∈ z.cells, u.oneCell' = true) (b o n : Nat) (hn : 0 < n)
  (hc : ∀ j, j < n * z.cells.size → (w.cell? ⟨b, o + j, none⟩).isSome = true) (hf : ∀ j, j < n * z.cells.size → w.frozen? ⟨b, o + j, none⟩ = false) :
  ∃ cs : List Value, cs.length = n * z.cells.size ∧ ∀ ty c, (Builtin.clear_ #[t] ty #[.slice (some ⟨b, o, none⟩) n c]).run P w = .ok (.tuple #[]) (w.setCells b o cs) := by
 refine ⟨(Builtin.zeroCells z.cells n).toList, by simp [Builtin.zeroCells], fun ty c => ?_⟩
 have hzl : (Builtin.zeroCells z.cells n).toList.length = n * z.cells.size := by simp [Builtin.zeroCells]
 have hz1 : ∀ v ∈ (Builtin.zeroCells z.cells n).toList, v.oneCell' = true := by
  intro v hv'
  simp [Builtin.zeroCells] at hv'
  obtain ⟨i, hi, rfl⟩ := hv'
  rcases Nat.eq_zero_or_pos z.cells.size with h0 | h0
  ·rw [h0, Nat.mul_zero] at hi; omega
  ·have : i % z.cells.size < z.cells.size := Nat.mod_lt _ h0
   rw [getElem!_pos z.cells _ this]
   exact h1 _ (Array.getElem_mem this)
 have hst := run_storeCells_cells (P := P) b o (Builtin.zeroCells z.cells n).toList 0 w (by rw [hzl]; simpa using hc) (by rw [hzl]; simpa using hf) hz1
 simp only [Nat.add_zero, Array.toArray_toList] at hst
 obtain ⟨m, rfl⟩ : ∃ m, n = m + 1 := ⟨n - 1, by omega⟩
 simp [Builtin.clear_, run_underlying ht, hv, hst]
end
section
variable {α : Type} {d : Kd α} {e n c base : Nat} {w : World} {ok : Nat → Prop} {g : Nat} {xs : List α}
theorem row_cap (h : Kd.R d e w base ok (.slice (some ⟨g, 0, none⟩) n c) xs) : c ≤ 9223372036854775807 := by
 obtain ⟨_, inner, ho, _⟩ := h
 rcases ho.2 with ⟨hv, _⟩ | ⟨g', cap', cur, hv, _, _, _, hm, _⟩
 ·cases hv
 ·injection hv with _ _ hc
  subst hc
  unfold maxLen at hm
  exact hm
theorem row_cells (h : Kd.R d e w base ok (.slice (some ⟨g, 0, none⟩) n c) xs) (j : Nat) (hj : j < c * d.sz) : (w.cell? ⟨g, j, none⟩).isSome = true ∧ w.frozen? ⟨g, j, none⟩ = false := by
 obtain ⟨_, inner, ho, _⟩ := h
 rcases ho.2 with ⟨hv, _⟩ | ⟨g', cap', cur, hv, _, hh, _, _, hs, _⟩
 ·cases hv
 ·injection hv with ha _ hc
  injection ha with ha
  injection ha with ha
  subst ha
  subst hc
  refine ⟨?_, blk_frozen hh j⟩
  rw [blk_cell hh j, Array.getElem?_eq_getElem (by omega)]
  rfl
theorem row_spare (h : Kd.R d e w base ok (.slice (some ⟨g, 0, none⟩) n c) xs) (o : Nat) (cs : List Value) (ho : n * d.sz ≤ o) (hf : o + cs.length ≤ c * d.sz) : Kd.R d e (w.setCells g o cs) base ok (.slice (some ⟨g, 0, none⟩) n c) xs := by
 have hn := (Kd.R_reads' h).1
 obtain ⟨hok, inner, hown, hr⟩ := h
 rcases hown.2 with ⟨hv, _⟩ | ⟨g', cap', cur, hv, hb, hh, hnc, hm, hs, ht⟩
 ·cases hv
 ·have hv' := hv
  injection hv with ha _ hc
  injection ha with ha
  injection ha with ha
  subst ha
  subst hc
  obtain ⟨cur', h3, h4, h5⟩ := setCells_row cs o w cur hh (by omega)
  refine ⟨hok, inner, ⟨hown.1, .inr ⟨g, c, cur', hv', hb, h3, hnc, hm, by rw [h4, hs], ?_⟩⟩, hr.imp_ (fun p q hp => d.M_move (fun k hk => setCells_far cs o k (fun e => hk.2 (by rw [e]; simp [Value.ownBlock]))) hp)⟩
  rw [h5, ← ht, ← hn]
  rw [List.append_assoc, List.take_append_of_le_length (by rw [List.length_take]; simp; omega), List.take_take, Nat.min_eq_left ho]
end
theorem setCells_kept (w : World) (g o : Nat) (cs : List Value) : Kept w (w.setCells g o cs) (fun k => k = g) := ⟨by have := (setCells_same g cs o w).2.2.2; omega, fun k _ hk => setCells_far cs o k hk⟩
theorem setCells_below (w : World) (g o : Nat) (cs : List Value) (B : Nat) (hB : B ≤ g) (hs : B ≤ w.heap.size) : Below B w (w.setCells g o cs) := by
 obtain ⟨h1, h2, h3, h4⟩ := setCells_same g cs o w
 exact ⟨h1, h2, h3, by omega, fun k hk => setCells_far cs o k (by omega)⟩
theorem cut_at (g c k sz off : Nat) (h : off = k * sz) : (if c = k then some (⟨g, 0, none⟩ : Addr) else some ⟨g, off, none⟩) = if c = k then some ⟨g, 0, none⟩ else (some (⟨g, 0, none⟩ : Addr)).map (·.add (k * sz)) := by
 by_cases e : c = k
 ·rw [if_pos e, if_pos e]
 ·rw [if_neg e, if_neg e, Option.map_some, add_at, Nat.zero_add, h]
end Go.Proofs.YthjgohbkpjhkeaaGreatDoor.Sl
set_option maxHeartbeats 4000000
set_option maxRecDepth 100000
namespace Go.Proofs.YthjgohbkpjhkeaaGreatDoor.Sl
open Go.RowKit Go.Lib Go.Proofs.YthjgohbkpjhkeaaGreatDoorW.PrintWords Go.Proofs.YthjgohbkpjhkeaaGreatDoorW.PrintLast Go.Proofs.YthjgohbkpjhkeaaGreatDoorW.PrintMore Go.Proofs.YthjgohbkpjhkeaaGreatDoor.PFnExactDo Go.Proofs.YthjgohbkpjhkeaaGreatDoor.Impl
theorem delT_calls (w : World) (base : Nat) (ok : Nat → Prop) (g n c i : Nat) (xs : List Nat) (hr : Kd.R ptrK 97 w base ok (.slice (some ⟨g, 0, none⟩) n c) xs) (hi : i < n) (hb : base ≤ w.heap.size) :
  Calls Tryz.prog 164 #[.slice (some ⟨g, 0, none⟩) n c, .int .i64 i, .int .i64 ((i : Int) + 1)] w fun e w' => e = .returned (.slice (some ⟨g, 0, none⟩) (n - 1) c) ∧ Kd.R ptrK 97 w' base ok (.slice (some ⟨g, 0, none⟩) (n - 1) c) (xs.eraseIdx i) ∧ Kept w w' (fun k => k = g) ∧ (∀ B, B ≤ g → B ≤ w.heap.size → Below B w w') := by
 obtain ⟨hn, hnc, _⟩ := Kd.R_reads' hr
 have hcm : c ≤ 9223372036854775807 := row_cap hr
 have hgb : base ≤ g := Kd.R_base hr g (by simp [Value.ownBlock])
 have hgl : g < w.heap.size := Kd.R_lt hr g (by simp [Value.ownBlock])
 have HR := am hr
 have HG := am (And.intro hgb (And.intro hgl (And.intro hb hn)))
 have hic : (i : Int) < n := by omega
 have hic2 : i ≤ c := by omega
 have hjc2 : i + 1 ≤ c := by omega
 have hjc3 : i + 1 ≤ n := by omega
 have hj0 : (0 : Int) ≤ (i : Int) + 1 := by omega
 have hj1 : (i : Int) + 1 ≤ n := by omega
 have hwr : IntKind.i64.wrap ((i : Int) + 1) = (i : Int) + 1 := by rw [IntKind.wrap_i64]; omega
 have hne : ¬ ((i : Int) = (i : Int) + 1) := by omega
 have htn : ((i : Int) + 1).toNat = i + 1 := by omega
 have hz := Tryz.zeroValue97
 have hut := Tryz.underlying96
 clear hr hgb hgl hb hn
 go_enter Tryz.func164, Tryz.ntmps164
 go_wp2_with fail
 go_region_law (refine Kd.R_delete_step ptrK (w0 := w) base (by rfl) (.tmp 22) (.tmp 25) 96 97 rfl Tryz.underlying96 (by kernel_rfl) (m := n - (i + 1)) (c2 := c - (i + 1)) (A := if c = i + 1 then some ⟨g, 0, none⟩ else some ⟨g, i + 1, none⟩) (by simp [Act.eval, Act.put]) (by simp [Act.eval, Act.put]) ?hA rfl HR.out hi ?hB ?hb ?_; (case hA => exact cut_at g c (i + 1) 1 _ (by omega)); (case hB => exact (Below.refl _ _).drew); (case hb => exact HG.out.2.2.1); intro w1 h1 h2 h3)
 have hcell := row_cells h1
 obtain ⟨cs, hcl, hcr⟩ := run_clear_sz w1 96 97 (.pointer none) Tryz.underlying96 hz (by simp [Value.cells, Value.oneCell']) g (n - 1) 1 (by omega) (fun j hj => (hcell _ (by simp [Value.cells] at hj; show _ < c * 1; omega)).1) (fun j hj => (hcell _ (by simp [Value.cells] at hj; show _ < c * 1; omega)).2)
 have HR2 := am (row_spare h1 (n - 1) cs (by show (n - 1) * 1 ≤ n - 1; omega) (by rw [hcl]; simp [Value.cells]; show _ ≤ c * 1; omega))
 have HK := am (And.intro ((Kept.of_grown h3 (Kept.of_below (show Below w.heap.size w w.drew from (Below.refl _ _).drew) (fun k => k = g)) (fun k hk => by injection hk with hk; exact .inl hk.symm)).then_ (setCells_kept w1 g (n - 1) cs) (fun k hk => .inl hk)) (fun B (h1 : B ≤ g) (h2' : B ≤ w.heap.size) => (((Below.refl B w).drew).grown h3 h2' (fun k hk => by injection hk with hk; omega)).trans (setCells_below w1 g (n - 1) cs B h1 (by have := h3.size; exact Nat.le_trans h2' this))))
 have hn1 : n - 1 ≤ n := by omega
 have hn2 : n ≤ c := hnc
 have hn3 : ¬ (c = n - 1) := by omega
 have hn4 : (((n - 1 : Nat) : Int)) ≤ n := by omega
 have hn5 : n - (n - 1) = 1 := by omega
 clear hcell hcl h1 h2 h3 hj0 hj1 hne htn hwr hic hic2 hjc2 hjc3
 go_wp2
 all_goals (go_ret; first | exact ⟨rfl, HR2.out, HK.out⟩ | ((have h : c = i + 1 := by assumption); subst h; exact ⟨rfl, HR2.out, HK.out⟩))
end Go.Proofs.YthjgohbkpjhkeaaGreatDoor.Sl
set_option maxHeartbeats 4000000
set_option maxRecDepth 100000
namespace Go.Proofs.YthjgohbkpjhkeaaGreatDoor.Impl
open Go.RowKit Go.Proofs.YthjgohbkpjhkeaaGreatDoorW.PrintWords Go.Proofs.YthjgohbkpjhkeaaGreatDoorW.PrintLast Go.Proofs.YthjgohbkpjhkeaaGreatDoorW.PrintMore Go.Proofs.YthjgohbkpjhkeaaGreatDoor.PFnExactDo Go.Proofs.YthjgohbkpjhkeaaGreatDoor.MapLib Go.Proofs.YthjgohbkpjhkeaaGreatDoor.FireSpec Go.Proofs.YthjgohbkpjhkeaaGreatDoor.Tr Go.Proofs.YthjgohbkpjhkeaaGreatDoor.Fo
structure Regr (w w' : World) (base b : Nat) (n : S95) (A : Option Addr) (c : Nat) (kv up : Value) (pl : Int) (bs' : List Nat) : Prop where
 ex : ∃ kv', TwigB w' b (withKids n bs'.length) A c kv' up pl ∧ PtrRow w' base kv' bs' ∧ (kv'.ownBlock = kv.ownBlock ∨ ∃ k, kv'.ownBlock = some k ∧ w.heap.size ≤ k)
 kids : ∀ j, j < bs'.length → ∀ n A c kv up pl, TwigB w (bs'.getD j 0) n A c kv up pl → TwigB w' (bs'.getD j 0) n A c kv (ptr b) (j : Int)
 kept : Kept w w' (fun k => k = b ∨ kv.ownBlock = some k ∨ k ∈ bs')
 below : ∀ B, B ≤ base → Below B w w'
theorem mem_getD {l : List Nat} {j : Nat} (h : j < l.length) : l.getD j 0 ∈ l := by
 rw [List.getD_eq_getElem?_getD, List.getElem?_eq_getElem h]
 exact List.getElem_mem h
theorem row_ne {w : World} {base : Nat} {kv : Value} {bs : List Nat} (h : PtrRow w base kv bs) {b : Nat} {n : S95} {A : Option Addr} {c : Nat} {kv1 up : Value} {pl : Int} (hx : TwigB w b n A c kv1 up pl) : kv.ownBlock ≠ some b := fun e =>
 row_ne_typed h hx (by decide) e.symm
theorem regr_mid {w w1 w2 : World} {base b : Nat} {n : S95} {A : Option Addr} {c : Nat} {kv kv' up : Value} {pl : Int} {bs' : List Nat} (hx : TwigB w b n A c kv up pl) (hrow : ∃ bs, PtrRow w base kv bs) (h1 : PtrRow w1 base kv' bs') (hk1 : Kept w w1 (fun k => kv.ownBlock = some k)) (hb1 : ∀ B, B ≤ base → Below B w w1)
  (hkids : ∀ k ∈ bs', ∃ n A c kv up pl, TwigB w k n A c kv up pl) (hb : b ∉ bs') (hbb : base ≤ b) (h2 : w2 = w1.setCell ⟨b, 6, none⟩ kv') :
  TwigB w2 b n A c kv' up pl ∧ PtrRow w2 base kv' bs' ∧ (∀ k ∈ bs', ∀ n A c kv up pl, TwigB w k n A c kv up pl → TwigB w2 k n A c kv up pl) ∧ Kept w w2 (fun k => k = b ∨ kv.ownBlock = some k) ∧ ∀ B, B ≤ base → Below B w w2 := by
 obtain ⟨bs, hrow⟩ := hrow
 have hx1 : TwigB w1 b n A c kv up pl := (hk1.2 b (blk_lt hx) (row_ne hrow hx)).trans hx
 obtain ⟨a1, a2, a3, a4⟩ := set_block h2 hx1
 refine ⟨a1, row_keep h1 (fun k hk => a2 k (fun e => row_ne h1 hx1 (e ▸ hk))), fun k hk n A c kv2 up pl ht => ?_, ?_, fun B hB => a4 _ _ (hb1 B hB) (Nat.le_trans hB hbb)⟩
 ·exact ((a2 k (fun e => hb (e ▸ hk))).trans (hk1.2 k (blk_lt ht) (row_ne hrow ht))).trans ht
 ·exact (hk1.mono (fun k hk => .inr hk)).then_ (S2 := fun k => k = b) ⟨by omega, fun k _ hk => a2 k hk⟩ (fun k hk => .inl (.inl hk))
theorem regr_of {w w2 w3 : World} {base b : Nat} {n : S95} {A : Option Addr} {c : Nat} {kv kv' up : Value} {pl : Int} {bs' : List Nat} (hx : TwigB w2 b n A c kv' up pl) (hr : PtrRow w2 base kv' bs') (hk : ∀ k ∈ bs', ∀ n A c kv up pl, TwigB w k n A c kv up pl → TwigB w2 k n A c kv up pl) (hkids : ∀ k ∈ bs', ∃ n A c kv up pl, TwigB w k n A c kv up pl)
  (hkept : Kept w w2 (fun k => k = b ∨ kv.ownBlock = some k)) (hb : ∀ B, B ≤ base → Below B w w2) (hbb : base ≤ b) (hkb : ∀ k ∈ bs', base ≤ k) (hown : kv'.ownBlock = kv.ownBlock ∨ ∃ k, kv'.ownBlock = some k ∧ w.heap.size ≤ k) (hc : Cnt w2 w3 b n A c kv' up pl bs' bs'.length) : Regr w w3 base b n A c kv up pl bs' := by
 refine ⟨⟨kv', hc.own, row_keep hr (fun k hk2 => hc.far k (fun e => row_ne hr hx (e ▸ hk2)) (fun i hi e => ?_)), hown⟩, fun j hj n A c kv up pl ht => hc.done j hj n A c kv up pl (hk _ (mem_getD hj) n A c kv up pl ht), ?_, fun B hB => (hb B hB).trans (hc.below B (Nat.le_trans hB hbb) (fun k hk => Nat.le_trans hB (hkb k hk)))⟩
 ·obtain ⟨n1, A1, c1, kv1, up1, pl1, h1⟩ := hkids _ (mem_getD hi)
  exact row_ne hr (hk _ (mem_getD hi) _ _ _ _ _ _ h1) (e ▸ hk2)
 ·refine (hkept.mono (fun k hk => by rcases hk with h | h; exact .inl h; exact .inr (.inl h))).then_ (S2 := fun k => k = b ∨ k ∈ bs') ⟨by have := hc.size; omega, fun k _ hn => hc.far k (fun e => hn (.inl e)) (fun i hi e => hn (.inr (e ▸ mem_getD hi)))⟩ (fun k hk => .inl (by rcases hk with h | h; exact .inl h; exact .inr (.inr h)))
theorem take_calls (w : World) (base b kb i : Nat) (n : S95) (A : Option Addr) (c : Nat) (kv up : Value) (pl : Int) (bs : List Nat) (hx : TwigB w b n A c kv up pl) (hrow : PtrRow w base kv bs) (hi : i < bs.length) (hk : ∃ n A c kv up, TwigB w kb n A c kv up (i : Int))
  (hkids : ∀ k ∈ bs, ∃ n A c kv up pl, TwigB w k n A c kv up pl) (hd : bs.Nodup) (hb : b ∉ bs) (hn : bs.length ≤ 1000000000) (hbb : base ≤ b) (hkb : ∀ k ∈ bs, base ≤ k) (hbase : base ≤ w.heap.size) :
  Calls Tryz.prog 162 #[ptr b, ptr kb] w fun e w' => e = .returned (.tuple #[]) ∧ Regr w w' base b n A c kv up pl (bs.eraseIdx i) := by
 have huw := Tryz.underlying99
 obtain ⟨g, ck, rfl, hg⟩ := Kd.R_form hrow (by omega)
 obtain ⟨n1, A1, c1, kv1, up1, hk1⟩ := hk
 obtain ⟨_, hx6, _, _, hxf⟩ := twig_cells hx
 obtain ⟨_, _, _, hk8, _⟩ := twig_cells hk1
 have hf6 := hxf 6
 have hi1 : IntKind.i64.wrap ((i : Int) + 1) = (i : Int) + 1 := by rw [IntKind.wrap_i64]; omega
 have HD := am (Sl.delT_calls w.drew base (fun _ => True) g bs.length ck i bs hrow hi hbase)
 have HX := am hx
 have HROW := am hrow
 have hel : (bs.eraseIdx i).length = bs.length - 1 := by rw [List.length_eraseIdx_of_lt hi]
 have hsub : ∀ k ∈ bs.eraseIdx i, k ∈ bs := fun k hk => List.mem_of_mem_eraseIdx hk
 have HALL := am (show (∀ k ∈ bs.eraseIdx i, ∃ n A c kv up pl, TwigB w k n A c kv up pl) ∧ (bs.eraseIdx i).Nodup ∧ b ∉ bs.eraseIdx i ∧ (bs.eraseIdx i).length ≤ 1000000000 ∧ base ≤ b ∧ (∀ k ∈ bs.eraseIdx i, base ≤ k) ∧ (bs.eraseIdx i).length = bs.length - 1 ∧ base ≤ w.heap.size ∧ base ≤ g from
  ⟨fun k hk => hkids k (hsub k hk), hd.sublist (List.eraseIdx_sublist _ _), fun h => hb (hsub b h), by omega, hbb, fun k hk => hkb k (hsub k hk), hel, hbase, hg.1⟩)
 clear hx hrow hkids hd hb hbb hkb hbase hg hk1 hxf hel hsub hn
 unfold ptr
 go_enter Tryz.func162, Tryz.ntmps162
 go_wp2_with fail
 go_region_law (refine goes_ Tryz.func164 (by kernel_rfl) rfl #[.slice (some ⟨g, 0, none⟩) bs.length ck, .int .i64 i, .int .i64 ((i : Int) + 1)] (by rfl) rfl rfl (by (try simp only [List.map_toArray, List.map_cons, List.map_nil]); rfl) ?_; refine HD.out.mono ?_; rintro e w1 ⟨rfl, h1, h2, h3⟩; refine ⟨_, rfl, ?_⟩; have hx1 := (h2.2 b (blk_lt HX.out) (fun e => row_ne HROW.out HX.out (by rw [e]; simp [Value.ownBlock]))).trans HX.out; have hc6 : w1.cell? ⟨b, 6, none⟩ = some (.slice (some ⟨g, 0, none⟩) bs.length ck) := blk_cell hx1 6; have hcf := blk_frozen hx1 6; have H1 := am (And.intro h1 (And.intro h2 h3)); clear h1 h2 h3 hx1)
 all_goals
  generalize hw2 : World.setCell _ _ _ = w2
  have HM := am (regr_mid HX.out ⟨bs, HROW.out⟩ H1.out.1 (H1.out.2.1.mono (fun k hk => by rw [hk]; simp [Value.ownBlock])) (fun B hB => ((Below.refl B w).drew).trans (H1.out.2.2 B (Nat.le_trans hB HALL.out.2.2.2.2.2.2.2.2) (Nat.le_trans hB HALL.out.2.2.2.2.2.2.2.1))) HALL.out.1 HALL.out.2.2.1 HALL.out.2.2.2.2.1 hw2.symm)
  clear hw2 hc6 hcf H1
  have HC := am (count_calls w2 base b n A c _ up pl (bs.eraseIdx i) HM.out.1 HM.out.2.1 (fun k hk => by obtain ⟨n1, A1, c1, kv1, up1, pl1, h1⟩ := HALL.out.1 k hk; exact ⟨_, _, _, _, _, _, HM.out.2.2.1 k hk _ _ _ _ _ _ h1⟩) HALL.out.2.1 HALL.out.2.2.1 HALL.out.2.2.2.1)
  unfold ptr at HC
  go_wp2_with (first | (go_at_call 143; refine HC.out.mono ?_; rintro e w3 ⟨rfl, h3⟩; have H3 := am h3; clear h3))
  go_end0
  exact ⟨rfl, regr_of HM.out.1 HM.out.2.1 HM.out.2.2.1 HALL.out.1 HM.out.2.2.2.1 HM.out.2.2.2.2 HALL.out.2.2.2.2.1 HALL.out.2.2.2.2.2.1 (.inl (by simp [Value.ownBlock])) H3.out⟩
end Go.Proofs.YthjgohbkpjhkeaaGreatDoor.Impl
namespace Go.Proofs.YthjgohbkpjhkeaaGreatDoor.Err
open Go.RowKit Go.Extern.Stop Go.Stop Go.Extern
theorem as_nil (t : Value) (w : World) :
  Calls Tryz.prog 78 #[.nilIface, t] w fun e w' => e = .returned (.bool false) ∧ w' = w := by
 go_enter Tryz.func78, Tryz.ntmps78
 go_wp2
 go_ret
 exact ⟨rfl, rfl⟩
theorem valueOfT (t : Addr) (w : World) : (ReflectliteValue.unpack (.iface 129 (.pointer (some t)))).run Tryz.prog w
  = .ok (.agg #[.pointer (some ⟨1, 129, none⟩), .pointer (some ⟨w.heap.size, 0, none⟩), .int .u64 150]) (w.alloc (.cells #[.pointer (some t)] 129)) := by kernel_rfl
theorem typeT (a : Addr) (w : World) : (ReflectliteValue.methodAny (ReflectliteValue.valueError "reflectlite.Value.Type" 0) (fun t _ _ _ => ReflectliteType.toType t) #[.agg #[.pointer (some ⟨1, 129, none⟩), .pointer (some a), .int .u64 150]]).run Tryz.prog w
  = .ok (.iface 193 (.agg #[.pointer (some ⟨1, 129, none⟩)])) w := by kernel_rfl
theorem methodKind (h : Value) (w : World) : (Go.method 358 193 (.agg #[h]) "Kind").run Tryz.prog w = .ok (140, h) w := by kernel_rfl
theorem kindT (w : World) : ((ReflectliteType.abiMethod fun t => (fun a : Nat => Value.int IntKind.u8 (a : Int)) <$> Rtype.kind t) #[.pointer (some ⟨1, 129, none⟩)]).run Tryz.prog w = .ok (.int .u8 22) w := by kernel_rfl
theorem kindR (w : World) : ((ReflectliteType.abiMethod fun t => (fun a : Nat => Value.int IntKind.u8 (a : Int)) <$> Rtype.kind t) #[.pointer (some ⟨1, 127, none⟩)]).run Tryz.prog w = .ok (.int .u8 22) w := by kernel_rfl
theorem rlm (z : Sem Value) (f : TypeId → Addr → Nat → Nat → Sem Value) (v : Value) :
  ReflectliteValue.method z f #[v] = (do match ← ReflectliteValue.parts v with | none => z | some (t, a, fl) => f t a fl (fl % 32)) := rfl
theorem partsT (a : Addr) (w : World) : (ReflectliteValue.parts (.agg #[.pointer (some ⟨1, 129, none⟩), .pointer (some a), .int .u64 150])).run Tryz.prog w = .ok (some (129, a, 150)) w := by kernel_rfl
theorem isNilT (a p : Addr) (W : World) (ha : W.cell? a = some (.pointer (some p))) :
  (ReflectliteValue.method (ReflectliteValue.valueError "reflectlite.Value.IsNil" 0) ReflectliteValue.isNil #[.agg #[.pointer (some ⟨1, 129, none⟩), .pointer (some a), .int .u64 150]]).run Tryz.prog W = .ok (.bool false) W := by
 rw [rlm]
 simp only [Sem.run_bind, partsT, Result.andThen]
 simp [ReflectliteValue.isNil, loadVar, isAgg, underlying, Tryz.underlying129, ha, Result.andThen]
theorem methodElem (h : Value) (w : World) : (Go.method 358 193 (.agg #[h]) "Elem").run Tryz.prog w = .ok (191, .agg #[h]) w := by kernel_rfl
theorem methodImplements (h : Value) (w : World) : (Go.method 358 193 (.agg #[h]) "Implements").run Tryz.prog w = .ok (192, .agg #[h]) w := by kernel_rfl
theorem methodAssignableTo (h : Value) (w : World) : (Go.method 358 193 (.agg #[h]) "AssignableTo").run Tryz.prog w = .ok (189, .agg #[h]) w := by kernel_rfl
theorem elemT (w : World) : (ReflectliteType.method ReflectliteType.elem #[.agg #[.pointer (some ⟨1, 129, none⟩)]]).run Tryz.prog w = .ok (.iface 193 (.agg #[.pointer (some ⟨1, 127, none⟩)])) w := by kernel_rfl
theorem implementsR (w : World) : (ReflectliteType.relation "Implements" ReflectliteType.implements_ #[.agg #[.pointer (some ⟨1, 127, none⟩)], .iface 193 (.agg #[.pointer (some ⟨1, 76, none⟩)])]).run Tryz.prog w = .ok (.bool true) w := by kernel_rfl
theorem typeOfR (v : Value) (w : World) : (ReflectliteType.typeOf #[.iface 127 v]).run Tryz.prog w = .ok (.iface 193 (.agg #[.pointer (some ⟨1, 127, none⟩)])) w := by kernel_rfl
theorem typeOfF (v : Value) (w : World) : (ReflectliteType.typeOf #[.iface 123 v]).run Tryz.prog w = .ok (.iface 193 (.agg #[.pointer (some ⟨1, 123, none⟩)])) w := by kernel_rfl
theorem assignableR (w : World) : (ReflectliteType.relation "AssignableTo" ReflectliteType.assignableTo #[.agg #[.pointer (some ⟨1, 127, none⟩)], .iface 193 (.agg #[.pointer (some ⟨1, 127, none⟩)])]).run Tryz.prog w = .ok (.bool true) w := by kernel_rfl
theorem assignableF (w : World) : (ReflectliteType.relation "AssignableTo" ReflectliteType.assignableTo #[.agg #[.pointer (some ⟨1, 123, none⟩)], .iface 193 (.agg #[.pointer (some ⟨1, 127, none⟩)])]).run Tryz.prog w = .ok (.bool false) w := by kernel_rfl
theorem valueOfR (e : Addr) (w : World) : (ReflectliteValue.unpack (.iface 127 (.pointer (some e)))).run Tryz.prog w
  = .ok (.agg #[.pointer (some ⟨1, 127, none⟩), .pointer (some ⟨w.heap.size, 0, none⟩), .int .u64 150]) (w.alloc (.cells #[.pointer (some e)] 127)) := by kernel_rfl
theorem elemOfT (w : World) : (Rtype.elem? 129).run Tryz.prog w = .ok (some 127) w := by kernel_rfl
theorem mkR (p : Addr) (w : World) : (ReflectliteValue.mk 127 p ReflectliteValue.flagAddr).run Tryz.prog w = .ok (.agg #[.pointer (some ⟨1, 127, none⟩), .pointer (some p), .int .u64 406]) w := by kernel_rfl
theorem elemV (a p : Addr) (W : World) (ha : W.cell? a = some (.pointer (some p))) :
  (ReflectliteValue.method (ReflectliteValue.valueError "reflectlite.Value.Elem" 0) ReflectliteValue.elem #[.agg #[.pointer (some ⟨1, 129, none⟩), .pointer (some a), .int .u64 150]]).run Tryz.prog W
   = .ok (.agg #[.pointer (some ⟨1, 127, none⟩), .pointer (some p), .int .u64 406]) W := by
 rw [rlm]
 simp only [Sem.run_bind, partsT, Result.andThen]
 simp [ReflectliteValue.elem, loadVar, isAgg, underlying, Tryz.underlying129, ha, Result.andThen, elemOfT, mkR]
theorem rls (v x : Value) : ReflectliteValue.set #[v, x] = (do
  let (some (dst, a, fl), some (src, b, _)) := (← ReflectliteValue.parts v, ← ReflectliteValue.parts x)
   | unsupported (.noEntry "extern/(internal/reflectlite.Value).Set.zeroValue")
  if fl / ReflectliteValue.flagAddr % 2 == 0 then unsupported (.noEntry "extern/(internal/reflectlite.Value).Set.unaddressable")
  let val ← loadVar src b
  if ← Rtype.directlyAssignable dst src then storeVar dst a val
  else if ← Rtype.implements dst src then
   if (← Rtype.kind src) == 20 then
    match val with
    | .nilIface => unsupported (.noEntry "extern/reflectlite: a nil value of one interface type handed on as a value of another")
    | _ => storeVar dst a val
   else storeVar dst a (.iface src val)
  else panicString ("reflectlite.Set: value of type " ++ (← Rtype.spelt src) ++ " is not assignable to type " ++ (← Rtype.spelt dst))
  pure (.tuple #[])) := rfl
theorem partsRa (a : Addr) (w : World) : (ReflectliteValue.parts (.agg #[.pointer (some ⟨1, 127, none⟩), .pointer (some a), .int .u64 406])).run Tryz.prog w = .ok (some (127, a, 406)) w := by kernel_rfl
theorem partsR (a : Addr) (w : World) : (ReflectliteValue.parts (.agg #[.pointer (some ⟨1, 127, none⟩), .pointer (some a), .int .u64 150])).run Tryz.prog w = .ok (some (127, a, 150)) w := by kernel_rfl
theorem directR (w : World) : (Rtype.directlyAssignable 127 127).run Tryz.prog w = .ok true w := by kernel_rfl
theorem setR (ta b e : Addr) (old : Value) (W : World) (hb : W.cell? b = some (.pointer (some e))) (ht : W.cell? ta = some old) (hf : W.frozen? ta = false) :
  (ReflectliteValue.set #[.agg #[.pointer (some ⟨1, 127, none⟩), .pointer (some ta), .int .u64 406], .agg #[.pointer (some ⟨1, 127, none⟩), .pointer (some b), .int .u64 150]]).run Tryz.prog W
   = .ok (.tuple #[]) (W.setCell ta (.pointer (some e))) := by
 rw [rls]
 simp only [Sem.run_bind, partsRa, partsR, Result.andThen]
 simp [ReflectliteValue.flagAddr, loadVar, isAgg, underlying, Tryz.underlying127, hb, Result.andThen, directR, storeVar, Value.cells, storeCells, Addr.add]
 rw [run_store Tryz.prog W ta _ _ (by rfl)]
 simp [ht, hf]
theorem noAs (v : Value) (xT : TypeId) (w : World) : (Instr.typeAssert (.iface 123 v) xT 198 true).run Tryz.prog w = .ok (.tuple #[.nilIface, .bool false]) w :=
 run_typeAssert_lacksB Tryz.underlying198 (by kernel_rfl) (by kernel_rfl) v xT w
theorem unwraps (v : Value) (xT : TypeId) (w : World) : (Instr.typeAssert (.iface 123 v) xT 201 true).run Tryz.prog w = .ok (.tuple #[.iface 123 v, .bool true]) w :=
 run_typeAssert_hasB Tryz.underlying201 (by kernel_rfl) v xT w
theorem methodUnwrap (p : Value) (w : World) : (Go.method 358 123 p "Unwrap").run Tryz.prog w = .ok (145, p) w := by kernel_rfl
end Go.Proofs.YthjgohbkpjhkeaaGreatDoor.Err
set_option maxHeartbeats 4000000
set_option maxRecDepth 100000
namespace Go.Proofs.YthjgohbkpjhkeaaGreatDoor.Err
open Go.RowKit Go.Extern.Stop Go.Stop Go.Extern
abbrev valT (a : Addr) : Value := .agg #[.pointer (some ⟨1, 129, none⟩), .pointer (some a), .int .u64 150]
abbrev hndR : Value := .iface 193 (.agg #[.pointer (some ⟨1, 127, none⟩)])
abbrev boxV (a : Addr) : Obj := .cells #[.pointer (some ⟨1, 129, none⟩), .pointer (some a), .int .u64 150] 169
theorem asHit (e a t : Addr) (tv old : Value) (w : World) (ha : w.cell? a = some (.pointer (some t))) (ht0 : w.cell? t = some old) (hf0 : w.frozen? t = false) :
  Calls Tryz.prog 108 #[.iface 127 (.pointer (some e)), tv, valT a, hndR] w fun ev w' => ev = .returned (.bool true) ∧ w' = ((w.alloc (boxV a)).alloc (.cells #[.pointer (some e)] 127)).setCell t (.pointer (some e)) := by
 have h105 := @run_callFunc_extern Tryz.prog 105 _ (fun args => ReflectliteValue.unpack (args.getD 0 (.tuple #[]))) Tryz.func105 (by kernel_rfl) (by kernel_rfl) (by kernel_rfl) (by kernel_rfl)
 have h121 := @run_callFunc_extern Tryz.prog 121 _ ReflectliteType.typeOf Tryz.func121 (by kernel_rfl) (by kernel_rfl) (by kernel_rfl) (by kernel_rfl)
 have h189 := @run_callFunc_extern Tryz.prog 189 _ (ReflectliteType.relation "AssignableTo" ReflectliteType.assignableTo) Tryz.func189 (by kernel_rfl) (by kernel_rfl) (by kernel_rfl) (by kernel_rfl)
 have h122 := @run_callFunc_extern Tryz.prog 122 _ (ReflectliteValue.method (ReflectliteValue.valueError "reflectlite.Value.Elem" 0) ReflectliteValue.elem) Tryz.func122 (by kernel_rfl) (by kernel_rfl) (by kernel_rfl) (by kernel_rfl)
 have h123 := @run_callFunc_extern Tryz.prog 123 _ ReflectliteValue.set Tryz.func123 (by kernel_rfl) (by kernel_rfl) (by kernel_rfl) (by kernel_rfl)
 have tO := typeOfR
 have mA := methodAssignableTo
 have aR := assignableR
 have vR := valueOfR
 have hal : a.block < w.heap.size := World.block_lt_of_cell? w _ ha
 have htl : t.block < w.heap.size := World.block_lt_of_cell? w _ ht0
 have el := elemV a t (w.alloc (boxV a)) (by rw [World.cell?_alloc_lt _ _ a hal]; exact ha)
 have st := setR t ⟨w.heap.size + 1, 0, none⟩ e old ((w.alloc (boxV a)).alloc (.cells #[.pointer (some e)] 127))
  (by rw [World.cell?_alloc_at _ _ _ _ (by simp)]; rfl)
  (by rw [World.cell?_alloc_lt _ _ t (by simp; omega), World.cell?_alloc_lt _ _ t htl]; exact ht0)
  (by rw [World.frozen?_alloc_old _ _ t (by simp; omega), World.frozen?_alloc_old _ _ t (Nat.ne_of_lt htl)]; exact hf0)
 clear ha ht0 hf0 hal htl
 unfold hndR valT
 unfold boxV at el st ⊢
 go_enter Tryz.func108, Tryz.ntmps108
 go_wp2
 refine wp_loop_rounds 1 ?_
 rw [rounds_succ]
 go_wp2
 go_ret
 exact ⟨rfl, rfl⟩
theorem asWrap (fb : Nat) (e a t : Addr) (tv old : Value) (w : World) (hk : w.cell? ⟨fb, 1, none⟩ = some (.iface 127 (.pointer (some e)))) (ha : w.cell? a = some (.pointer (some t))) (ht0 : w.cell? t = some old) (hf0 : w.frozen? t = false) :
  Calls Tryz.prog 108 #[.iface 123 (.pointer (some ⟨fb, 0, none⟩)), tv, valT a, hndR] w fun ev w' => ev = .returned (.bool true) ∧ w' = ((w.alloc (boxV a)).alloc (.cells #[.pointer (some e)] 127)).setCell t (.pointer (some e)) := by
 have h105 := @run_callFunc_extern Tryz.prog 105 _ (fun args => ReflectliteValue.unpack (args.getD 0 (.tuple #[]))) Tryz.func105 (by kernel_rfl) (by kernel_rfl) (by kernel_rfl) (by kernel_rfl)
 have h121 := @run_callFunc_extern Tryz.prog 121 _ ReflectliteType.typeOf Tryz.func121 (by kernel_rfl) (by kernel_rfl) (by kernel_rfl) (by kernel_rfl)
 have h189 := @run_callFunc_extern Tryz.prog 189 _ (ReflectliteType.relation "AssignableTo" ReflectliteType.assignableTo) Tryz.func189 (by kernel_rfl) (by kernel_rfl) (by kernel_rfl) (by kernel_rfl)
 have h122 := @run_callFunc_extern Tryz.prog 122 _ (ReflectliteValue.method (ReflectliteValue.valueError "reflectlite.Value.Elem" 0) ReflectliteValue.elem) Tryz.func122 (by kernel_rfl) (by kernel_rfl) (by kernel_rfl) (by kernel_rfl)
 have h123 := @run_callFunc_extern Tryz.prog 123 _ ReflectliteValue.set Tryz.func123 (by kernel_rfl) (by kernel_rfl) (by kernel_rfl) (by kernel_rfl)
 have tO := typeOfR
 have tF := typeOfF
 have mA := methodAssignableTo
 have aR := assignableR
 have aF := assignableF
 have nA := noAs
 have uW := unwraps
 have mU := methodUnwrap
 have vR := valueOfR
 have hal : a.block < w.heap.size := World.block_lt_of_cell? w _ ha
 have htl : t.block < w.heap.size := World.block_lt_of_cell? w _ ht0
 have hkl : fb < w.heap.size := World.block_lt_of_cell? w _ hk
 have hk2 : (w.alloc (boxV a)).cell? ⟨fb, 1, none⟩ = some (.iface 127 (.pointer (some e))) := by rw [World.cell?_alloc_lt _ _ ⟨fb, 1, none⟩ hkl]; exact hk
 have el := elemV a t (w.alloc (boxV a)) (by rw [World.cell?_alloc_lt _ _ a hal]; exact ha)
 have st := setR t ⟨w.heap.size + 1, 0, none⟩ e old ((w.alloc (boxV a)).alloc (.cells #[.pointer (some e)] 127))
  (by rw [World.cell?_alloc_at _ _ _ _ (by simp)]; rfl)
  (by rw [World.cell?_alloc_lt _ _ t (by simp; omega), World.cell?_alloc_lt _ _ t htl]; exact ht0)
  (by rw [World.frozen?_alloc_old _ _ t (by simp; omega), World.frozen?_alloc_old _ _ t (Nat.ne_of_lt htl)]; exact hf0)
 clear ha ht0 hf0 hal htl hk hkl
 unfold hndR valT
 unfold boxV at el st hk2 ⊢
 go_enter Tryz.func108, Tryz.ntmps108
 go_wp2
 refine wp_loop_rounds 2 ?_
 rw [rounds_succ]
 go_wp2
 rw [rounds_succ]
 go_wp2
 go_ret
 exact ⟨rfl, rfl⟩
end Go.Proofs.YthjgohbkpjhkeaaGreatDoor.Err
