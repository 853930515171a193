/- Part 22 of the proof: TokPut, TokIdx, TokCom, TokWord. -/
import Derived.Test.YtnjnoabldjodcaaDoorA21
import Derived.Deep.RegionLaw
import Derived.Test.YtnjnoabldjodcaaDoorA8
import Derived.Lib.Index
import Derived.Lib.FieldsP
import Derived.Lib.MapLaws
import Derived.Lib.SpaceUEq
import Derived.Test.YtnjnoabldjodcaaDoorShelf
set_option linter.unusedVariables false
set_option linter.unusedSimpArgs false
namespace Go.Proofs.YtnjnoabldjodcaaDoor.Tok
open Go.RowKit Go.Proofs.YtnjnoabldjodcaaDoorW.PrintWords Go.Proofs.YtnjnoabldjodcaaDoorW.PrintLast Go.Proofs.YtnjnoabldjodcaaDoorW.PrintMore Go.Proofs.YtnjnoabldjodcaaDoor.PFnExactTokens
theorem attr_off {w : World} {base : Nat} {ok okt : Nat → Prop} {v o : Value} {al : List A} {out : List T} (h : Kd.R k62 62 w base ok v al) (ho : Kd.S k36 36 w base okt o out) :
    Kd.R k62 62 w base (fun k => ok k ∧ some k ≠ o.ownBlock) v al := by
  refine Kd.R_mono (Kd.R_bound h) (fun k hk => ⟨hk.1, fun e => ?_⟩)
  obtain ⟨_, _, _, q, hq, cells, hc⟩ := hk
  obtain ⟨inner, hown⟩ := Kd.S_own ho
  obtain ⟨cells2, hc2⟩ := own_typed hown k e.symm
  rw [hc] at hc2
  injection hc2 with hc2
  injection hc2 with _ hT
  rcases List.mem_cons.1 hq with e2 | hq
  · rw [e2] at hT; exact absurd hT (by decide)
  · exact absurd hq (by simp [k62, Kd.iso, Kd.pair, Kd.string, Kd.scalar])
theorem attr_kept {w w1 : World} {base : Nat} {ok okt : Nat → Prop} {v o v3 : Value} {al : List A} {out : List T} {b : Nat} {p : Bs} (h : Kd.R k62 62 w base ok v al) (ho : Kd.S k36 36 w base okt o out) (h3 : ByteRow w base v3 p) {T_ : Nat} {cs : Array Value} (hb : w.heap[b]? = some (.cells cs T_ (0, 0))) (hT : T_ ≠ 62)
    (ht : Turned (fun k => k = b ∨ some k = v3.ownBlock ∨ some k = o.ownBlock) w w1) : Kd.R k62 62 w1 base ok v al := by
  have h2 := Kd.R_bound (attr_off h ho)
  refine Kd.R_mono (Kd.R_move h2 (fun k hk => ?_)) (fun k hk => hk.1.1)
  obtain ⟨⟨_, hko⟩, _, hlt, q, hq, cells, hc⟩ := hk
  have hq62 : q = 62 := by
    rcases List.mem_cons.1 hq with e2 | hq
    · exact e2
    · exact absurd hq (by simp [k62, Kd.iso, Kd.pair, Kd.string, Kd.scalar])
  refine ht.block k hlt (fun hs => ?_)
  rcases hs with e | e | e
  · subst e
    rw [hc] at hb
    injection hb with hb
    injection hb with _ hb
    exact hT (by rw [← hb, hq62])
  · obtain ⟨cs3, hc3⟩ := byte_block h3 e
    rw [hc] at hc3
    injection hc3 with hc3
    injection hc3 with _ hc3
    rw [hq62] at hc3
    exact absurd hc3 (by decide)
  · exact hko e
set_option maxHeartbeats 8000000 in
set_option maxRecDepth 100000 in
theorem put_calls {base : Nat} {ok : Nat → Prop} {w : World} {b : Nat} {s : ByteArray} {i : Nat} {a v o : Value} {p : Bs} {out : List T} {v2 : Value} (h : ScanAt base (fun k => ok k ∧ some k ≠ v2.ownBlock) w b s i a v o p out) (hok : ∀ k, w.heap.size ≤ k → ok k) (hl : out.length < 2 ^ 29)
    (kd : Int) (nm : ByteArray) (al : List A) (tx : ByteArray) (cl : Bool) (hv : Kd.R k62 62 w base ok v2 al) :
    Calls Tryd.prog 44 #[.pointer (some ⟨b, 0, none⟩), .agg #[.int .i64 kd, .string nm, v2, .string tx, .bool cl]] w fun e w' => ∃ a' v' o', e = .returned (.tuple #[]) ∧ ScanAt base ok w' b s i a' v' o' [] (out ++ fl p ++ [⟨kd, nm, al, tx, cl⟩]) ∧ Turned (fun k => k = b ∨ some k = v.ownBlock ∨ ok k) w w' := by
  have hut := Tryd.underlying36
  obtain ⟨A2, c2, e2⟩ := Kd.R_slice hv
  subst e2
  have hlt2 : ∀ k, w.heap.size ≤ k → some k ≠ (Value.slice A2 al.length c2).ownBlock := fun k hk e => by have := Kd.R_lt hv k e.symm; omega
  have HLT2 := Aside0.mk hlt2
  obtain ⟨w0, hw0⟩ : ∃ w0, w0 = w.alloc (.cells #[.int .i64 kd, .string nm, .slice A2 al.length c2, .string tx, .bool cl] 36) := ⟨_, rfl⟩
  have hb0 : Below w.heap.size w w0 := by rw [hw0]; exact below_one _ _
  have hs0 : w0.heap.size = w.heap.size + 1 := by rw [hw0]; simp
  have h0 : ScanAt base (fun k => (ok k ∧ some k ≠ (Value.slice A2 al.length c2).ownBlock) ∧ k ≠ w.heap.size) w0 b s i a v o p out := (h.mono (ok' := (fun k => (ok k ∧ some k ≠ (Value.slice A2 al.length c2).ownBlock) ∧ k ≠ w.heap.size)) (fun k hk hlt => ⟨hk, by omega⟩)).under hb0
  have hv0 : Kd.R k62 62 w0 base ok (.slice A2 al.length c2) al := Kd.R_below hv hb0
  have hbox : w0.heap[w.heap.size]? = some (.cells #[.int .i64 kd, .string nm, .slice A2 al.length c2, .string tx, .bool cl] 36 (0, 0)) := by rw [hw0]; exact heap_alloc_new _ _
  have HFL := Aside0.mk (flush_calls h0 (fun k hk => ⟨⟨hok k (by omega), hlt2 k (by omega)⟩, by omega⟩) (by omega))
  have H0 := Aside0.mk h0
  have HV0 := Aside0.mk hv0
  have HBOX := Aside0.mk hbox
  have HOK := Aside0.mk hok
  have HL := Aside0.mk hl
  have HB0 := Aside0.mk hb0
  have HS0 := Aside0.mk hs0
  have HW0 := Aside0.mk hw0
  have HH := Aside0.mk h
  obtain ⟨wb, hwb⟩ : ∃ wb, wb = w.heap.size := ⟨_, rfl⟩
  rw [← hwb] at HBOX HFL H0 HS0
  have HWB := Aside0.mk hwb
  clear h hok hl hv h0 hv0 hbox hb0 hs0 hw0 hwb
  go_enter Tryd.func44, Tryd.ntmps44
  go_upto_region 1 with (fail)
  rw [← HW0.out, ← HWB.out]
  go_upto_region 2 with ((go_at_call 21; refine HFL.out.mono ?_; rintro e w1 ⟨a1, v1, o1, rfl, hs1, ht1⟩; have HS1 := Aside0.mk hs1; have HT1 := Aside0.mk ht1; clear hs1 ht1))
  have hwbn : ∀ k, k < w0.heap.size → (k = b ∨ some k = v.ownBlock ∨ some k = o.ownBlock) → k ≠ wb := fun k hk e e2 => by
    subst e2
    rcases e with e | e | e
    · have := HH.out.blk.lt; have := HWB.out; omega
    · exact byte_ne H0.out.text HBOX.out (by decide) e
    · exact ((Kd.S_R H0.out.toks).1 k e.symm).2 rfl
  have hbx1 := (HT1.out.block wb (blk_lt HBOX.out) (fun e => hwbn wb (blk_lt HBOX.out) e rfl)).trans HBOX.out
  have HBX1 := Aside0.mk hbx1
  have hv1 : Kd.R k62 62 w1 base ok (.slice A2 al.length c2) al := attr_kept HV0.out H0.out.toks H0.out.text H0.out.blk (by decide) HT1.out
  have HV1 := Aside0.mk (attr_off hv1 HS1.out.toks)
  obtain ⟨A4, c4, e4⟩ := Kd.S_slice HS1.out.toks
  subst e4
  have k1 : w1.cell? ⟨b, 4, none⟩ = some (.slice A4 (out ++ fl p).length c4) := blk_cell HS1.out.blk 4
  have k1a : ∀ o, (w1.alloc o).cell? ⟨b, 4, none⟩ = some (.slice A4 (out ++ fl p).length c4) := (fun o => by rw [← k1]; exact World.cell?_of_block (w := w1) (Below.heap_alloc w1 o b HS1.out.blk.lt))
  have b0 := blk_cell hbx1 0
  have b1 := blk_cell hbx1 1
  have b2 := blk_cell hbx1 2
  have b3 := blk_cell hbx1 3
  have b4 := blk_cell hbx1 4
  obtain ⟨out2, ho2⟩ : ∃ out2, out2 = out ++ fl p := ⟨_, rfl⟩
  have HO2 := Aside0.mk ho2
  have HL2 := Aside0.mk (show out2.length < 2 ^ 29 + 1 by rw [ho2, List.length_append]; have := HL.out; unfold fl; split <;> simp <;> omega)
  rw [← ho2] at k1 k1a HS1 HV1
  have HGS := Aside0.mk (show w.heap.size ≤ w1.heap.size by have := HT1.out.size; have := HS0.out; have := HWB.out; omega)
  have hgen : ∀ W, Turned (fun _ => False) w1 W → Kd.S k36 36 W base (fun k => ok k ∧ ¬ (some k = (Value.slice A2 al.length c2).ownBlock)) (.slice A4 out2.length c4) out2 ∧ Kd.R k62 62 W base (fun k => some k = (Value.slice A2 al.length c2).ownBlock) (.slice A2 al.length c2) al ∧ Turned (fun k => k = b ∨ some k = (Value.slice A4 out2.length c4).ownBlock) w1 W := fun W hW =>
    ⟨Kd.S_mono (Kd.S_step HS1.out.toks (fun k _ hlt => hW.block k hlt (fun e => e))) (fun _ hk => ⟨hk.1.1, hk.1.2⟩), Kd.R_tight rfl (Kd.R_step HV1.out (fun k _ hlt => hW.block k hlt (fun e => e))), hW.mono (fun _ _ e => e.elim)⟩
  have HOP := Aside0.mk (show ∀ k, some k = (Value.slice A2 al.length c2).ownBlock → ok k ∧ some k ≠ (Value.slice A4 out2.length c4).ownBlock from fun k hk => HV1.out.1 k hk.symm)
  have HG0 := Aside0.mk (hgen w1 (Turned.refl _ _))
  have HG1 := Aside0.mk (hgen w1.drew (Turned.refl _ _).drew)
  have HG2 := Aside0.mk (hgen w1.drew.drew (Turned.refl _ _).drew.drew)
  clear hbx1 hv1 hwbn ho2 hgen HV1
  go_region_law (((refine Kd.S_append_step (W := w1.drew) k36 (w0 := w1.drew) base (by rfl) (.tmp 10) (.tmp 12) 22 36 (.agg #[.int .i64 0, .string ⟨#[]⟩, .slice none 0 0, .string ⟨#[]⟩, .bool false]) 72 (by rfl) Tryd.underlying22 info36 rfl (by decide) (by omega) (.slice A4 out2.length c4) out2 (⟨kd, nm, al, tx, cl⟩ : T) [.int .i64 kd, .string nm, .slice A2 al.length c2, .string tx, .bool cl] ok _ (by rfl) (by rfl) (k36_mkM _ _ _ (⟨kd, nm, al, tx, cl⟩ : T) (HG1.out.2.1)) (fun k hk => HOP.out k hk) (fun k hk => HOK.out k (Nat.le_trans HGS.out hk)) HG1.out.1 (Below.refl _ _) HS1.out.lt (by have := HL2.out; omega) ?_; intro v8 w8 hr8 hb8 hg8 hm8; have hq8 : w8.heap[b]? = _ := (hg8.block b HS1.out.blk.lt (tok_ne HS1.out.toks HS1.out.blk (by decide))).trans HS1.out.blk; have k8 : w8.cell? ⟨b, 4, none⟩ = some (.slice A4 out2.length c4) := blk_cell hq8 4; have f8 := blk_frozen hq8 4; obtain ⟨A8, c8, e8⟩ := Kd.S_slice hr8; subst e8; generalize hn8 : (out2 ++ [(⟨kd, nm, al, tx, cl⟩ : T)]).length = n8 at hr8; have HM8 := Aside0.mk (And.intro (show Sc w8 b s i a1 v1 (.slice A4 out2.length c4) from hq8) (And.intro hr8 (HG1.out.2.2.trans ((Turned.of_grown hg8).mono (S' := fun k => k = b ∨ some k = (Value.slice A4 out2.length c4).ownBlock) (fun k _ e => .inr e))))); clear hb8 hg8 hr8 hm8 hq8 hn8)))
  all_goals
    generalize hw9 : World.setCell _ _ _ = w9
    have HS9 := Aside0.mk (show Sc w9 b s i a1 v1 (.slice A8 n8 c8) by rw [← hw9]; exact blk_put HM8.out.1 4 _ rfl)
    have HK9 := Aside0.mk (show Kd.S k36 36 w9 base ok (.slice A8 n8 c8) (out2 ++ [(⟨kd, nm, al, tx, cl⟩ : T)]) by rw [← hw9]; exact toks_step HM8.out.2.1 (Turned.put _ _ _ _) (fun k _ e => by subst e; exact ⟨_, _, HM8.out.1, by decide, by decide⟩))
    have HT9 := Aside0.mk (show Turned (fun k => k = b ∨ some k = (Value.slice A4 out2.length c4).ownBlock) w1 w9 by rw [← hw9]; exact HM8.out.2.2.then_ (Turned.put _ _ _ _) (fun k _ e => .inl e))
    clear hw9
    go_wp2
    go_end0
    refine ⟨_, _, _, rfl, ⟨HS9.out, HS1.out.self, ?_, ?_, (fun x hx => by cases hx), HH.out.bb⟩, ?_⟩
    · refine byte_turned HS1.out.text HT9.out (fun k hk e => ?_)
      rcases e with e | e
      · exact byte_ne HS1.out.text HS1.out.blk (by decide) (by rw [hk, e])
      · obtain ⟨cs3, hc3⟩ := byte_block HS1.out.text hk.symm
        exact tok_ne HS1.out.toks hc3 (by decide) e
    · rw [← HO2.out]; exact HK9.out
    · have h1 : Turned (fun k => k = b ∨ some k = v.ownBlock ∨ ok k) w w1 := (Turned.of_below HB0.out).trans (HT1.out.mono (fun k _ e => by
        rcases e with e | e | e
        · exact .inl e
        · exact .inr (.inl e)
        · exact .inr (.inr ((Kd.S_R H0.out.toks).1 k e.symm).1.1)))
      refine h1.trans (HT9.out.mono (fun k _ e => ?_))
      rcases e with e | e
      · exact .inl e
      · exact .inr (.inr ((Kd.S_R HS1.out.toks).1 k e.symm).1.1)
end Go.Proofs.YtnjnoabldjodcaaDoor.Tok
set_option linter.unusedVariables false
set_option linter.unusedSimpArgs false
namespace Go.Proofs.YtnjnoabldjodcaaDoor.Tok
open Go.RowKit Go.Proofs.YtnjnoabldjodcaaDoorW.PrintWords Go.Proofs.YtnjnoabldjodcaaDoor.PFnExactTokens
abbrev toB (l : List UInt8) : Bs := l.map (fun b => (b.toNat : Int))
theorem pre_toB : ∀ (t l : List UInt8), t.isPrefixOf l = pre (toB t) (toB l)
  | [], l => by simp [pre]
  | a :: t, [] => by simp [pre]
  | a :: t, b :: l => by
    have ih := pre_toB t l
    rw [List.isPrefixOf, ih]
    unfold pre
    rw [Bool.eq_iff_iff]
    simp only [Bool.and_eq_true, beq_iff_eq, decide_eq_true_eq, toB, List.map_cons, List.length_cons, List.take_succ_cons, List.cons.injEq]
    constructor
    · rintro ⟨rfl, h⟩; exact ⟨rfl, h⟩
    · rintro ⟨h1, h⟩
      exact ⟨UInt8.toNat_inj.1 (by omega), h⟩
def cmR : Bs → Nat × Nat
  | [] => (0, 0)
  | b :: l => if pre [45, 45, 62] (b :: l) then (0, 3) else if pre [45, 45, 33, 62] (b :: l) then (0, 4) else ((cmR l).1 + 1, (cmR l).2)
theorem cmR_cons (b : Int) (l : Bs) : cmR (b :: l) = if pre [45, 45, 62] (b :: l) then (0, 3) else if pre [45, 45, 33, 62] (b :: l) then (0, 4) else ((cmR l).1 + 1, (cmR l).2) := rfl
theorem cm_R (L : Bs) : ∀ (d i : Nat), i + d = L.length → cm L d i = (i + (cmR (L.drop i)).1, i + (cmR (L.drop i)).1 + (cmR (L.drop i)).2)
  | 0, i, h => by
    rw [List.drop_eq_nil_of_le (by omega)]
    simp only [cm, cmR]
    simp
    omega
  | d + 1, i, h => by
    have ih := cm_R L d (i + 1) (by omega)
    have hd := List.drop_eq_getElem_cons (show i < L.length by omega)
    unfold cm
    rw [ih]
    generalize hl2 : L.drop (i + 1) = l2 at *
    rw [hd, cmR_cons]
    split
    · simp
    · split
      · simp
      · simp only [Prod.mk.injEq]
        omega
theorem cmR_le : ∀ l, (cmR l).1 + (cmR l).2 ≤ l.length
  | [] => by simp [cmR]
  | b :: l => by
    have := cmR_le l
    unfold cmR
    split
    · rename_i h
      have := pre_length h
      simp at this ⊢
      omega
    · split
      · rename_i h
        have := pre_length h
        simp at this ⊢
        omega
      · simp
        omega
def pickI (i1 i2 : Int) (n : Nat) : Int × Int :=
  let q : Int × Int := if 0 ≤ i1 ∧ i1 < n then (i1, 3) else ((n : Int), 0)
  if 0 ≤ i2 ∧ i2 < q.1 then (i2, 4) else q
theorem pick_R : ∀ l : List UInt8, pickI (Go.Lib.index l [45, 45, 62]) (Go.Lib.index l [45, 45, 33, 62]) l.length = (((cmR (toB l)).1 : Int), ((cmR (toB l)).2 : Int))
  | [] => by decide
  | b :: l => by
    have ih := pick_R l
    have g1 := Go.Lib.index_ge l [45, 45, 62]
    have g2 := Go.Lib.index_ge l [45, 45, 33, 62]
    have e1 : List.isPrefixOf [45, 45, 62] (b :: l) = pre [45, 45, 62] (toB (b :: l)) := pre_toB _ _
    have e2 : List.isPrefixOf [45, 45, 33, 62] (b :: l) = pre [45, 45, 33, 62] (toB (b :: l)) := pre_toB _ _
    rw [show toB (b :: l) = (b.toNat : Int) :: toB l from rfl] at e1 e2 ⊢
    unfold Go.Lib.index cmR
    rw [e1, e2]
    generalize Go.Lib.index l [45, 45, 62] = x1 at *
    generalize Go.Lib.index l [45, 45, 33, 62] = x2 at *
    cases h1 : pre [45, 45, 62] ((b.toNat : Int) :: toB l) with
    | true =>
      simp only [if_true]
      unfold pickI
      rw [if_pos (show (0 : Int) ≤ 0 ∧ (0 : Int) < ((b :: l).length : Nat) from ⟨by omega, by simp⟩)]
      simp only
      rw [if_neg (by omega)]
      rfl
    | false =>
      simp only [Bool.false_eq_true, if_false]
      cases h2 : pre [45, 45, 33, 62] ((b.toNat : Int) :: toB l) with
      | true =>
        simp only [if_true]
        unfold pickI
        simp only [List.length_cons]
        by_cases c : (x1 == -1) = true
        · rw [if_pos c]
          simp
        · rw [if_neg c]
          have c' : x1 ≠ -1 := by simpa using c
          by_cases c2 : 0 ≤ x1 + 1 ∧ x1 + 1 < ((l.length + 1 : Nat) : Int)
          · rw [if_pos c2]
            simp only
            rw [if_pos (by omega)]
            rfl
          · rw [if_neg c2]
            simp only
            rw [if_pos (by omega)]
            rfl
      | false =>
        simp only [Bool.false_eq_true, if_false]
        unfold pickI at ih ⊢
        simp only [List.length_cons] at ih ⊢
        have hx1 : ∀ x : Int, ∃ y, (if (x == -1) = true then -1 else x + 1) = y ∧ ((x = -1 ∧ y = -1) ∨ (x ≠ -1 ∧ y = x + 1)) := fun x => by
          refine ⟨_, rfl, ?_⟩
          by_cases c : x = -1
          · simp [c]
          · simp [c]
        obtain ⟨y1, e1, q1⟩ := hx1 x1
        obtain ⟨y2, e2, q2⟩ := hx1 x2
        rw [e1, e2]
        generalize hc1 : (cmR (toB l)).1 = a1 at *
        generalize hc2 : (cmR (toB l)).2 = a2 at *
        generalize hnl : (l.length : Int) = nl at *
        rw [show ((l.length + 1 : Nat) : Int) = nl + 1 by omega]
        have hnl0 : 0 ≤ nl := by omega
        clear hx1 h1 h2 e1 e2 hc1 hc2 hnl
        by_cases c1 : 0 ≤ x1 ∧ x1 < nl
        · rw [if_pos c1] at ih
          rw [if_pos (show 0 ≤ y1 ∧ y1 < nl + 1 by omega)]
          simp only at ih ⊢
          by_cases c2 : 0 ≤ x2 ∧ x2 < x1
          · rw [if_pos c2] at ih
            rw [if_pos (show 0 ≤ y2 ∧ y2 < y1 by omega)]
            simp only [Prod.mk.injEq] at ih ⊢
            omega
          · rw [if_neg c2] at ih
            rw [if_neg (show ¬ (0 ≤ y2 ∧ y2 < y1) by omega)]
            simp only [Prod.mk.injEq] at ih ⊢
            omega
        · rw [if_neg c1] at ih
          rw [if_neg (show ¬ (0 ≤ y1 ∧ y1 < nl + 1) by omega)]
          simp only at ih ⊢
          by_cases c2 : 0 ≤ x2 ∧ x2 < nl
          · rw [if_pos c2] at ih
            rw [if_pos (show 0 ≤ y2 ∧ y2 < nl + 1 by omega)]
            simp only [Prod.mk.injEq] at ih ⊢
            omega
          · rw [if_neg c2] at ih
            rw [if_neg (show ¬ (0 ≤ y2 ∧ y2 < nl + 1) by omega)]
            simp only [Prod.mk.injEq] at ih ⊢
            omega
def wr (x : Nat) : Bool := decide (x < 128) && white (x : Int)
theorem white_lt {x : Nat} (h : 128 ≤ x) : white (x : Int) = false := by
  unfold white
  simp
  omega
theorem B_nat (s : ByteArray) (i : Nat) : (B s)[i]? = (s.data.toList[i]?).map (fun b => (b.toNat : Int)) := by unfold B bytesOf; rw [List.getElem?_map]
theorem getD_B {s : ByteArray} {i : Nat} {b : Int} (h : (B s)[i]? = some b) : ((s.data.toList.getD i 0).toNat : Int) = b := by
  rw [B_nat] at h
  rw [List.getD_eq_getElem?_getD]
  cases hx : s.data.toList[i]? with
  | none => rw [hx] at h; cases h
  | some x => rw [hx] at h; simpa using h
theorem rune_at (s : ByteArray) (pos : Nat) (hp : pos < s.size) :
    (wr (Utf8.decode s pos).1 = true ∧ (Utf8.decode s pos).2 = 1 ∧ ∃ b, (B s)[pos]? = some b ∧ white b = true) ∨
    (wr (Utf8.decode s pos).1 = false ∧ 1 ≤ (Utf8.decode s pos).2 ∧ pos + (Utf8.decode s pos).2 ≤ s.size ∧ ∀ j, j < (Utf8.decode s pos).2 → ∃ b, (B s)[pos + j]? = some b ∧ white b = false) := by
  have hlen : s.data.toList.length = s.size := by simp
  have hget : ∀ j, pos + j < s.size → (B s)[pos + j]? = some ((s.data.toList.getD (pos + j) 0).toNat : Int) := fun j hj => by
    rw [B_get s _ hj]
    have := getD_B (B_get s _ hj)
    rw [this]
  rw [Go.Lib.decode_N]
  generalize hn : s.data.toList.length - pos = n
  have hn1 : n = s.size - pos := by omega
  have k0 := hget 0 (by omega)
  rw [Nat.add_zero] at k0
  have hw : ∀ j, pos + j < s.size → 128 ≤ (s.data.toList.getD (pos + j) 0).toNat → ∃ b, (B s)[pos + j]? = some b ∧ white b = false := fun j hj h => ⟨_, hget j hj, white_lt h⟩
  have hw0 : 128 ≤ (s.data.toList.getD pos 0).toNat → ∃ b, (B s)[pos]? = some b ∧ white b = false := fun h => ⟨_, k0, white_lt h⟩
  have hconts := Go.Lib.decodeN_conts n (s.data.toList.getD pos 0).toNat (s.data.toList.getD (pos + 1) 0).toNat (s.data.toList.getD (pos + 2) 0).toNat (s.data.toList.getD (pos + 3) 0).toNat
  have hge1 := Go.Lib.decodeN_ge1 n (s.data.toList.getD pos 0).toNat (s.data.toList.getD (pos + 1) 0).toNat (s.data.toList.getD (pos + 2) 0).toNat (s.data.toList.getD (pos + 3) 0).toNat
  by_cases h128 : (s.data.toList.getD pos 0).toNat < 128
  · rw [Go.Lib.decodeN_ascii _ _ _ _ _ h128]
    simp only
    cases hwx : white ((s.data.toList.getD pos 0).toNat : Int) with
    | true =>
      refine .inl ⟨?_, trivial, _, k0, hwx⟩
      unfold wr
      rw [hwx, decide_eq_true h128]
      rfl
    | false =>
      refine .inr ⟨?_, by omega, by omega, fun j hj => ?_⟩
      · unfold wr
        rw [hwx, Bool.and_false]
      · obtain rfl : j = 0 := by omega
        exact ⟨_, by rw [Nat.add_zero]; exact k0, hwx⟩
  · right
    have hr : 128 ≤ (Go.Lib.decodeN n (s.data.toList.getD pos 0).toNat (s.data.toList.getD (pos + 1) 0).toNat (s.data.toList.getD (pos + 2) 0).toNat (s.data.toList.getD (pos + 3) 0).toNat).1 := by
      rcases Go.Lib.decodeN_shape n (s.data.toList.getD pos 0).toNat (s.data.toList.getD (pos + 1) 0).toNat (s.data.toList.getD (pos + 2) 0).toNat (s.data.toList.getD (pos + 3) 0).toNat with ⟨c, e⟩ | ⟨_, _, _, c, e⟩ | ⟨_, _, _, _, c, _, e⟩ | ⟨_, _, _, _, _, c, _, e⟩ | e
      · omega
      all_goals (rw [e]; simp only; omega)
    generalize Go.Lib.decodeN n (s.data.toList.getD pos 0).toNat (s.data.toList.getD (pos + 1) 0).toNat (s.data.toList.getD (pos + 2) 0).toNat (s.data.toList.getD (pos + 3) 0).toNat = q at *
    obtain ⟨c2, c3, c4, c5⟩ := hconts
    refine ⟨?_, hge1, ?_, fun j hj => ?_⟩
    · unfold wr
      rw [decide_eq_false (by omega)]
      rfl
    · omega
    · rcases (show j = 0 ∨ j = 1 ∨ j = 2 ∨ j = 3 by omega) with rfl | rfl | rfl | rfl
      · exact hw0 (by omega)
      · exact hw 1 (by omega) (by omega)
      · exact hw 2 (by omega) (by omega)
      · exact hw 3 (by omega) (by omega)
theorem sp_skip {p : Int → Bool} (L : Bs) : ∀ (k i : Nat), (∀ j, j < k → ∃ b, L[i + j]? = some b ∧ p b = true) → i + sp p (L.drop i) = i + k + sp p (L.drop (i + k))
  | 0, i, _ => rfl
  | k + 1, i, h => by
    obtain ⟨b, hb, hp⟩ := h 0 (by omega)
    rw [Nat.add_zero] at hb
    have hl : i < L.length := (List.getElem?_eq_some_iff.1 hb).1
    have ih := sp_skip L k (i + 1) (fun j hj => by have := h (j + 1) (by omega); rwa [show i + 1 + j = i + (j + 1) by omega])
    rw [List.drop_eq_getElem_cons hl, show L[i] = b from (List.getElem?_eq_some_iff.1 hb).2, sp, if_pos hp]
    rw [show i + (k + 1) = i + 1 + k by omega]
    omega
theorem sp_here {p : Int → Bool} {L : Bs} {i : Nat} {b : Int} (hb : L[i]? = some b) (hp : p b = false) : i + sp p (L.drop i) = i := by
  have hl : i < L.length := (List.getElem?_eq_some_iff.1 hb).1
  rw [List.drop_eq_getElem_cons hl, show L[i] = b from (List.getElem?_eq_some_iff.1 hb).2, sp, if_neg (by rw [hp]; simp)]
  rfl
theorem spans_keep (s : ByteArray) (x : Nat × Nat) : ∀ (f pos : Nat) (st : Option Nat) (acc : List (Nat × Nat)), acc.head? = some x → (Go.Lib.closeSpans s (Go.Lib.spansFromP wr s f pos st acc)).head? = some x
  | 0, pos, st, acc, h => by
    unfold Go.Lib.spansFromP Go.Lib.closeSpans
    cases st with
    | none => exact h
    | some a => simp [List.head?_append, h]
  | f + 1, pos, st, acc, h => by
    unfold Go.Lib.spansFromP
    split
    · split
      · cases st with
        | none => exact spans_keep s x f _ _ _ h
        | some a => exact spans_keep s x f _ _ _ (by simp [List.head?_append, h])
      · cases st with
        | none => exact spans_keep s x f _ _ _ h
        | some a => exact spans_keep s x f _ _ _ h
    · unfold Go.Lib.closeSpans
      cases st with
      | none => exact h
      | some a => simp [List.head?_append, h]
theorem nw (b : Int) : (!endsIn [] b) = !white b := by unfold endsIn; simp
theorem spans_some (s : ByteArray) (a : Nat) : ∀ (f pos : Nat), s.size ≤ pos + f → pos ≤ s.size → (Go.Lib.closeSpans s (Go.Lib.spansFromP wr s f pos (some a) [])).head? = some (a, un (B s) [] pos)
  | 0, pos, h, h2 => by
    unfold Go.Lib.spansFromP Go.Lib.closeSpans
    have : un (B s) [] pos = s.size := by
      unfold un
      rw [List.drop_eq_nil_of_le (by rw [B_length]; omega)]
      simp [sp]
      omega
    simp [this]
  | f + 1, pos, h, h2 => by
    unfold Go.Lib.spansFromP
    split
    · rename_i hp
      rcases rune_at s pos hp with ⟨h1, h3, b, hb, hw⟩ | ⟨h1, h3, h4, h5⟩
      · rw [if_pos h1]
        have : un (B s) [] pos = pos := sp_here hb (by rw [nw, hw]; rfl)
        rw [this]
        exact spans_keep s _ _ _ _ _ (by simp)
      · rw [if_neg (by rw [h1]; simp)]
        have := spans_some s a f (pos + (Utf8.decode s pos).2) (by omega) h4
        rw [this]
        have := sp_skip (p := fun b => !endsIn [] b) (B s) (Utf8.decode s pos).2 pos (fun j hj => by obtain ⟨b, hb, hw⟩ := h5 j hj; exact ⟨b, hb, by rw [nw, hw]; rfl⟩)
        unfold un
        rw [this]
    · have : un (B s) [] pos = s.size := by
        unfold un
        rw [List.drop_eq_nil_of_le (by rw [B_length]; omega)]
        simp [sp]
        omega
      unfold Go.Lib.closeSpans
      simp [this]
theorem spans_none (s : ByteArray) : ∀ (f pos : Nat), s.size ≤ pos + f → pos ≤ s.size →
    (Go.Lib.closeSpans s (Go.Lib.spansFromP wr s f pos none [])).head? = if ov (B s) pos < s.size then some (ov (B s) pos, un (B s) [] (ov (B s) pos)) else none
  | 0, pos, h, h2 => by
    have : ov (B s) pos = s.size := by
      unfold ov
      rw [List.drop_eq_nil_of_le (by rw [B_length]; omega)]
      simp [sp]
      omega
    rw [this, if_neg (by omega)]
    rfl
  | f + 1, pos, h, h2 => by
    unfold Go.Lib.spansFromP
    split
    · rename_i hp
      rcases rune_at s pos hp with ⟨h1, h3, b, hb, hw⟩ | ⟨h1, h3, h4, h5⟩
      · rw [if_pos h1, h3]
        simp only
        rw [spans_none s f (pos + 1) (by omega) (by omega)]
        have : ov (B s) pos = ov (B s) (pos + 1) := sp_skip (p := white) (B s) 1 pos (fun j hj => ⟨b, by rw [show j = 0 by omega]; exact hb, hw⟩)
        rw [this]
      · rw [if_neg (by rw [h1]; simp)]
        simp only
        obtain ⟨b, hb, hw⟩ := h5 0 (by omega)
        have : ov (B s) pos = pos := sp_here hb hw
        rw [this, if_pos hp, spans_some s pos f _ (by omega) h4]
        have := sp_skip (p := fun b => !endsIn [] b) (B s) (Utf8.decode s pos).2 pos (fun j hj => by obtain ⟨b, hb, hw⟩ := h5 j hj; exact ⟨b, hb, by rw [nw, hw]; rfl⟩)
        unfold un
        rw [this]
    · have : ov (B s) pos = s.size := by
        unfold ov
        rw [List.drop_eq_nil_of_le (by rw [B_length]; omega)]
        simp [sp]
        omega
      rw [this, if_neg (by omega)]
      rfl
def wordOf (s : ByteArray) : ByteArray := (Go.Lib.goFieldsP wr s).head?.getD ⟨#[]⟩
theorem word_is (s : ByteArray) : B (wordOf s) = part (B s) (ov (B s) 0) (un (B s) [] (ov (B s) 0)) := by
  unfold wordOf Go.Lib.goFieldsP Go.Lib.spansOfP
  rw [List.head?_map, spans_none s s.size 0 (by omega) (by omega)]
  split
  · simp only [Option.map_some, Option.getD_some]
    rw [B_extract]
    rfl
  · rename_i h
    unfold part
    rw [List.drop_eq_nil_of_le (by rw [B_length]; omega)]
    simp
    decide
theorem doc_is (s : ByteArray) : docName (B s) = S (low (B (wordOf s))) := by rw [word_is]; rfl
end Go.Proofs.YtnjnoabldjodcaaDoor.Tok
set_option linter.unusedVariables false
set_option linter.unusedSimpArgs false
namespace Go.Proofs.YtnjnoabldjodcaaDoor.Tok
open Go.RowKit Go.Proofs.YtnjnoabldjodcaaDoorW.PrintWords Go.Proofs.YtnjnoabldjodcaaDoorW.PrintLast Go.Proofs.YtnjnoabldjodcaaDoorW.PrintMore Go.Proofs.YtnjnoabldjodcaaDoor.PFnExactTokens
def MaxL (w : World) : Prop := ∃ m, w.cell? ⟨1, 0, none⟩ = some (.int .i64 m)
theorem MaxL.turned {S : Nat → Prop} {w w' : World} (h : MaxL w) (ht : Turned S w w') (hS : ¬ S 1) (h1 : 1 < w.heap.size) : MaxL w' := by
  obtain ⟨m, h⟩ := h
  exact ⟨m, by rw [World.cell?_of_block (w := w) (w' := w') (ht.block 1 h1 hS)]; exact h⟩
theorem sindex_calls (s sub : ByteArray) (hs : s.size < 2 ^ 31) (w : World) (hm : MaxL w) :
    Calls Tryd.prog 71 #[.string s, .string sub] w fun e w' => e = .returned (.int .i64 (Go.Lib.index s.data.toList sub.data.toList)) ∧ w' = w := by
  obtain ⟨m, hm⟩ := hm
  exact Tryd.strings_Index s sub m w (by omega) hm
theorem put_com {base : Nat} {ok : Nat → Prop} {w : World} {b : Nat} {s : ByteArray} {i : Nat} {a v o : Value} {p : Bs} {out : List T} (h : ScanAt base ok w b s i a v o p out) (hok : ∀ k, w.heap.size ≤ k → ok k) (hl : out.length < 2 ^ 29) (kd : Int) (nm tx : ByteArray) :
    Calls Tryd.prog 44 #[.pointer (some ⟨b, 0, none⟩), .agg #[.int .i64 kd, .string nm, .slice none 0 0, .string tx, .bool false]] w fun e w' => ∃ a' v' o', e = .returned (.tuple #[]) ∧ ScanAt base ok w' b s i a' v' o' [] (out ++ fl p ++ [⟨kd, nm, [], tx, false⟩]) ∧ Turned (fun k => k = b ∨ some k = v.ownBlock ∨ ok k) w w' :=
  put_calls (v2 := .slice none 0 0) (h.mono (fun k hk _ => ⟨hk, by simp [Value.ownBlock]⟩)) hok hl kd nm [] tx false (Kd.R_nil _ _ _ _ _)
set_option maxHeartbeats 8000000 in
set_option maxRecDepth 100000 in
theorem comment_calls {base : Nat} {ok : Nat → Prop} {w : World} {b : Nat} {s : ByteArray} {i : Nat} {a v o : Value} {p : Bs} {out : List T} (h : ScanAt base ok w b s i a v o p out) (hok : ∀ k, w.heap.size ≤ k → ok k) (hl : out.length < 2 ^ 29) (hs : s.size < 2 ^ 30) (hi : i + 4 ≤ s.size) (hm : MaxL w) (hb1 : b ≠ 1) (h1 : 1 < w.heap.size) :
    Calls Tryd.prog 45 #[.pointer (some ⟨b, 0, none⟩)] w fun e w' => ∃ a' v' o', e = .returned (.tuple #[]) ∧ ScanAt base ok w' b s (commentI (B s) (i + 4)).2 a' v' o' [] (out ++ fl p ++ [⟨4, ⟨#[]⟩, [], S (commentI (B s) (i + 4)).1, false⟩]) ∧ Turned (fun k => k = b ∨ some k = v.ownBlock ∨ ok k) w w' := by
  obtain ⟨R, hR⟩ : ∃ R, R = commentI (B s) (i + 4) := ⟨_, rfl⟩
  rw [← hR]
  obtain ⟨r, hr⟩ : ∃ r, r = s.extract (i + 4) s.size := ⟨_, rfl⟩
  have hBr : B r = (B s).drop (i + 4) := by rw [hr, B_rest]
  have HRS := Aside0.mk (show r.size = s.size - (i + 4) by rw [hr, rest_size])
  have H := Aside0.mk h
  have HS := Aside0.mk hs
  have HI := Aside0.mk hi
  have HM := Aside0.mk hm
  have HB1 := Aside0.mk hb1
  have HW1 := Aside0.mk h1
  have HOK := Aside0.mk hok
  have HL := Aside0.mk hl
  have HREST := Aside0.mk (fun (W : World) (hb : Sc W b s (i + 4) a v o) => by have := rest_calls s b (i + 4) hi a v o W hb; rw [← hr] at this; exact this)
  have HPUT := Aside0.mk (fun (W : World) (j : Nat) (tx : ByteArray) (hq : ScanAt base ok W b s j a v o p out) (hsz : w.heap.size ≤ W.heap.size) => put_com hq (fun k hk => hok k (Nat.le_trans hsz hk)) hl 4 ⟨#[]⟩ tx)
  have c1 := h.blk.c1
  have f1 := h.blk.f1
  have hii : (i : Int) < 1073741824 := by omega
  have HRR := Aside0.mk hR
  have HBR := Aside0.mk hBr
  have HR2 := Aside0.mk hr
  have hgo : ∀ (c : Bool) (j : Nat) (tx : ByteArray) (w2 : World), R = (B tx, j) → ScanAt base ok w2 b s j a v o p out → Turned (fun k => k = b) w w2 → Calls Tryd.prog 44 #[.pointer (some ⟨b, 0, none⟩), .agg #[.int .i64 4, .string ⟨#[]⟩, .slice none 0 0, .string tx, .bool false]] w2 fun e w' => e = .returned (.tuple #[]) ∧ ∃ a' v' o', ScanAt base ok w' b s R.2 a' v' o' [] (out ++ fl p ++ [⟨4, ⟨#[]⟩, [], S R.1, false⟩]) ∧ Turned (fun k => k = b ∨ some k = v.ownBlock ∨ ok k) w w' := fun c j tx w2 he hq ht => by
    refine (HPUT.out w2 j tx hq ht.size).mono ?_
    rintro e w' ⟨a', v', o', rfl, h1, h2⟩
    refine ⟨rfl, a', v', o', ?_, (ht.mono (fun _ _ e => .inl e)).trans h2⟩
    rw [he]
    simp only
    rw [S_B]
    exact h1
  have HGO := Aside0.mk hgo
  cases hp1 : pre [62] (B r) with
  | true =>
    have HP1 := Aside0.mk hp1
    have HRE := Aside0.mk (show R = (B ⟨#[]⟩, i + 5) by rw [hR]; unfold commentI; rw [← hBr, hp1, if_pos rfl]; rfl)
    clear h hok hl hs hi hm hb1 h1 hR hBr hr hp1 hgo
    go_enter Tryd.func45, Tryd.ntmps45
    go_wp2_with (first | (go_at_call 36; refine (HREST.out _ (H.out.blk.at_ (i + 4))).mono ?_; rintro e w2 ⟨rfl, n2, rfl⟩; have HS2 := Aside0.mk ((H.out.at_ (i + 4)).drewN n2); have c2 := HS2.out.blk.c1; have f2 := HS2.out.blk.f1) | (go_at_call 37; refine (prefix_calls r ⟨#[62]⟩ _).mono ?_; rintro e w3 ⟨rfl, rfl⟩; rw [show B ⟨#[62]⟩ = [62] from by decide, HP1.out]) | (go_at_call 44; refine (HGO.out true (i + 5) ⟨#[]⟩ _ HRE.out (HS2.out.at_ (i + 5)) (((Turned.put _ _ _ _).drewN _).at_ _ _)).mono ?_; rintro e w4 ⟨rfl, h4⟩; have H4 := Aside0.mk h4; clear h4))
    refine bodyPost_ret (results_none rfl _ _ _) rfl ?_
    obtain ⟨a', v', o', h5, h6⟩ := H4.out
    exact ⟨a', v', o', rfl, h5, h6⟩
  | false =>
    have HP1 := Aside0.mk hp1
    cases hp2 : pre [45, 62] (B r) with
    | true =>
      have HP2 := Aside0.mk hp2
      have HRE := Aside0.mk (show R = (B ⟨#[]⟩, i + 6) by rw [hR]; unfold commentI; rw [← hBr, hp1, hp2, if_neg (by simp), if_pos rfl]; rfl)
      clear h hok hl hs hi hm hb1 h1 hR hBr hr hp1 hp2 hgo
      go_enter Tryd.func45, Tryd.ntmps45
      go_wp2_with (first | (go_at_call 36; refine (HREST.out _ (H.out.blk.at_ (i + 4))).mono ?_; rintro e w2 ⟨rfl, n2, rfl⟩; have HS2 := Aside0.mk ((H.out.at_ (i + 4)).drewN n2); have c2 := HS2.out.blk.c1; have f2 := HS2.out.blk.f1) | (go_at_call 37; refine (prefix_calls r ⟨#[62]⟩ _).mono ?_; rintro e w3 ⟨rfl, rfl⟩; rw [show B ⟨#[62]⟩ = [62] from by decide, HP1.out]) | (go_at_call 37; refine (prefix_calls r ⟨#[45, 62]⟩ _).mono ?_; rintro e w3 ⟨rfl, rfl⟩; rw [show B ⟨#[45, 62]⟩ = [45, 62] from by decide, HP2.out]) | (go_at_call 44; refine (HGO.out true (i + 6) ⟨#[]⟩ _ HRE.out (HS2.out.at_ (i + 6)) (((Turned.put _ _ _ _).drewN _).at_ _ _)).mono ?_; rintro e w4 ⟨rfl, h4⟩; have H4 := Aside0.mk h4; clear h4))
      refine bodyPost_ret (results_none rfl _ _ _) rfl ?_
      obtain ⟨a', v', o', h5, h6⟩ := H4.out
      exact ⟨a', v', o', rfl, h5, h6⟩
    | false =>
      have HP2 := Aside0.mk hp2
      obtain ⟨q, hq⟩ : ∃ q, q = cmR (B r) := ⟨_, rfl⟩
      have hqle := cmR_le (B r)
      rw [← hq, B_length] at hqle
      have HQL := Aside0.mk hqle
      have HRE := Aside0.mk (show R = (B (r.extract 0 q.1), i + 4 + (q.1 + q.2)) by
        rw [hR]
        unfold commentI
        rw [← hBr, hp1, hp2, if_neg (by simp), if_neg (by simp)]
        rw [cm_R (B s) _ _ (by rw [B_length]; omega), ← hBr, ← hq, B_extract, hBr]
        unfold part
        simp only [List.drop_zero, Nat.sub_zero, Prod.mk.injEq]
        exact ⟨by rw [show i + 4 + q.1 - (i + 4) = q.1 by omega], by omega⟩)
      have hpk := pick_R r.data.toList
      rw [show toB r.data.toList = B r from rfl, ← hq, show r.data.toList.length = r.size by simp] at hpk
      have HPK := Aside0.mk hpk
      have HIX := Aside0.mk (fun (sub : ByteArray) (W : World) (hW : MaxL W) => sindex_calls r sub (by rw [HRS.out]; omega) W hW)
      have g1 := Go.Lib.index_ge r.data.toList [45, 45, 62]
      have g2 := Go.Lib.index_ge r.data.toList [45, 45, 33, 62]
      have l1 := Go.Lib.index_le r.data.toList [45, 45, 62]
      have l2 := Go.Lib.index_le r.data.toList [45, 45, 33, 62]
      obtain ⟨x1, hx1⟩ : ∃ x1, x1 = Go.Lib.index r.data.toList [45, 45, 62] := ⟨_, rfl⟩
      obtain ⟨x2, hx2⟩ : ∃ x2, x2 = Go.Lib.index r.data.toList [45, 45, 33, 62] := ⟨_, rfl⟩
      rw [← hx1] at g1 l1
      rw [← hx2] at g2 l2
      rw [← hx1, ← hx2] at HPK
      have HX1 := Aside0.mk hx1
      have HX2 := Aside0.mk hx2
      have hrs : r.size < 1073741824 := by rw [HRS.out]; omega
      clear h hok hl hs hi hm hb1 h1 hR hBr hr hp1 hp2 hgo hq hpk hx1 hx2 hqle
      go_enter Tryd.func45, Tryd.ntmps45
      go_wp2_with (first | (go_at_call 36; refine (HREST.out _ (H.out.blk.at_ (i + 4))).mono ?_; rintro e w2 ⟨rfl, n2, rfl⟩; have HS2 := Aside0.mk ((H.out.at_ (i + 4)).drewN n2); have c2 := HS2.out.blk.c1; have f2 := HS2.out.blk.f1) | (go_at_call 37; refine (prefix_calls r ⟨#[62]⟩ _).mono ?_; rintro e w3 ⟨rfl, rfl⟩; rw [show B ⟨#[62]⟩ = [62] from by decide, HP1.out]) | (go_at_call 37; refine (prefix_calls r ⟨#[45, 62]⟩ _).mono ?_; rintro e w3 ⟨rfl, rfl⟩; rw [show B ⟨#[45, 62]⟩ = [45, 62] from by decide, HP2.out]))
      generalize hw3 : World.alloc _ _ = w3
      have hbl : w3.heap[w.heap.size]? = some (.cells #[.string ⟨#[45, 45, 62]⟩, .string ⟨#[45, 45, 33, 62]⟩] 9 (0, 0)) := by
        rw [← hw3]
        have := heap_alloc_new ((w.setCell ⟨b, 1, none⟩ (.int .i64 (i + 4))).drewN n2) (.cells #[.string ⟨#[45, 45, 62]⟩, .string ⟨#[45, 45, 33, 62]⟩] 9)
        simpa [World.drewN, World.setCell] using this
      have hk0 : w3.cell? ⟨w.heap.size, 0, none⟩ = some (.string ⟨#[45, 45, 62]⟩) := blk_cell hbl 0
      have hk1 : w3.cell? ⟨w.heap.size, 1, none⟩ = some (.string ⟨#[45, 45, 33, 62]⟩) := blk_cell hbl 1
      clear hbl
      have HS3 := Aside0.mk (show ScanAt base ok w3 b s (i + 4) a v o p out by rw [← hw3]; exact HS2.out.under (below_one _ _))
      have HT3 := Aside0.mk (show Turned (fun k => k = b) w w3 by rw [← hw3]; exact ((Turned.put _ _ _ _).drewN _).trans (Turned.of_below (below_one _ _)))
      have HM3 := Aside0.mk (HM.out.turned HT3.out (fun e => HB1.out e.symm) HW1.out)
      clear hw3
      go_loopg [3, 4, 47] 3 (fun kq v3 v4 v47 wr => w3 = wr ∧ ∃ (j E Z : Int), v3 = .int .i64 E ∧ v4 = .int .i64 Z ∧ v47 = .int .i64 j ∧ Aside0 ((j = 0 ∧ E = r.size ∧ Z = 0 ∧ kq = 3) ∨ (j = 1 ∧ (E, Z) = (if 0 ≤ x1 ∧ x1 < r.size then (x1, 3) else ((r.size : Int), 0)) ∧ kq = 2) ∨ (j = 2 ∧ E = q.1 ∧ Z = q.2)))
      case atStart => exact ⟨rfl, 0, _, 0, rfl, rfl, rfl, ⟨.inl ⟨rfl, rfl, rfl, rfl⟩⟩⟩
      case round =>
        obtain ⟨rfl, j, E, Z, rfl, rfl, rfl, HJ⟩ := hrel
        rcases HJ.out with ⟨rfl, rfl, rfl, rfl⟩ | ⟨rfl, hE, rfl⟩ | ⟨rfl, rfl, rfl⟩
        · clear HJ
          by_cases ca : 0 ≤ x1
          · have hda : decide (0 ≤ x1) = true := decide_eq_true ca
            by_cases cb : x1 < (r.size : Int)
            · have hdb : decide (x1 < (r.size : Int)) = true := decide_eq_true cb
              have HC := Aside0.mk (And.intro ca cb)
              go_wp2_with ((go_at_call 71; refine (HIX.out _ _ HM3.out).mono ?_; rintro e w5 ⟨rfl, rfl⟩; rw [← HX1.out]))
              go_roundg 2
              case measure => omega
              case rel => exact ⟨rfl, 1, _, _, rfl, rfl, rfl, ⟨.inr (.inl ⟨rfl, by rw [if_pos HC.out], rfl⟩)⟩⟩
            · have hdb : decide (x1 < (r.size : Int)) = false := decide_eq_false cb
              have HC := Aside0.mk (show ¬ (0 ≤ x1 ∧ x1 < (r.size : Int)) from fun h => cb h.2)
              go_wp2_with ((go_at_call 71; refine (HIX.out _ _ HM3.out).mono ?_; rintro e w5 ⟨rfl, rfl⟩; rw [← HX1.out]))
              go_roundg 2
              case measure => omega
              case rel => exact ⟨rfl, 1, _, _, rfl, rfl, rfl, ⟨.inr (.inl ⟨rfl, by rw [if_neg HC.out], rfl⟩)⟩⟩
          · have hda : decide (0 ≤ x1) = false := decide_eq_false ca
            have HC := Aside0.mk (show ¬ (0 ≤ x1 ∧ x1 < (r.size : Int)) from fun h => ca h.1)
            go_wp2_with ((go_at_call 71; refine (HIX.out _ _ HM3.out).mono ?_; rintro e w5 ⟨rfl, rfl⟩; rw [← HX1.out]))
            go_roundg 2
            case measure => omega
            case rel => exact ⟨rfl, 1, _, _, rfl, rfl, rfl, ⟨.inr (.inl ⟨rfl, by rw [if_neg HC.out], rfl⟩)⟩⟩
        · have HE := Aside0.mk (show pickI x1 x2 r.size = if 0 ≤ x2 ∧ x2 < E then (x2, 4) else (E, Z) by unfold pickI; simp only; rw [← hE])
          have HE2 := Aside0.mk (show -1 ≤ E ∧ E < 1073741824 by
            by_cases c : 0 ≤ x1 ∧ x1 < (r.size : Int)
            · rw [if_pos c] at hE; injection hE; omega
            · rw [if_neg c] at hE; injection hE; omega)
          have hE2 := HE2.out
          clear hE HJ
          by_cases ca : 0 ≤ x2
          · have hda : decide (0 ≤ x2) = true := decide_eq_true ca
            by_cases cb : x2 < E
            · have hdb : decide (x2 < E) = true := decide_eq_true cb
              have HC := Aside0.mk (HPK.out.symm.trans (HE.out.trans (if_pos (And.intro ca cb))))
              go_wp2_with ((go_at_call 71; refine (HIX.out _ _ HM3.out).mono ?_; rintro e w5 ⟨rfl, rfl⟩; rw [← HX2.out]))
              go_roundg 1
              case measure => omega
              case rel => exact ⟨rfl, 2, _, _, rfl, rfl, rfl, ⟨.inr (.inr ⟨rfl, (congrArg Prod.fst HC.out).symm, (congrArg Prod.snd HC.out).symm⟩)⟩⟩
            · have hdb : decide (x2 < E) = false := decide_eq_false cb
              have HC := Aside0.mk (HPK.out.symm.trans (HE.out.trans (if_neg (show ¬ (0 ≤ x2 ∧ x2 < E) from fun h => cb h.2))))
              go_wp2_with ((go_at_call 71; refine (HIX.out _ _ HM3.out).mono ?_; rintro e w5 ⟨rfl, rfl⟩; rw [← HX2.out]))
              go_roundg 1
              case measure => omega
              case rel => exact ⟨rfl, 2, _, _, rfl, rfl, rfl, ⟨.inr (.inr ⟨rfl, (congrArg Prod.fst HC.out).symm, (congrArg Prod.snd HC.out).symm⟩)⟩⟩
          · have hda : decide (0 ≤ x2) = false := decide_eq_false ca
            have HC := Aside0.mk (HPK.out.symm.trans (HE.out.trans (if_neg (show ¬ (0 ≤ x2 ∧ x2 < E) from fun h => ca h.1))))
            go_wp2_with ((go_at_call 71; refine (HIX.out _ _ HM3.out).mono ?_; rintro e w5 ⟨rfl, rfl⟩; rw [← HX2.out]))
            go_roundg 1
            case measure => omega
            case rel => exact ⟨rfl, 2, _, _, rfl, rfl, rfl, ⟨.inr (.inr ⟨rfl, (congrArg Prod.fst HC.out).symm, (congrArg Prod.snd HC.out).symm⟩)⟩⟩
        · clear HJ
          have hq1 : (q.1 : Int) ≤ r.size := by have := HQL.out; omega
          have hq2 : (q.2 : Int) ≤ 1073741824 := by have := HQL.out; omega
          have HP3 := Aside0.mk (HPUT.out w3 (i + 4) (r.extract 0 q.1) HS3.out HT3.out.size)
          go_wp2_with ((go_at_call 44; refine HP3.out.mono ?_; rintro e w4 ⟨a4, v4, o4, rfl, h4, ht4⟩; have HS4 := Aside0.mk h4; have HT4 := Aside0.mk ht4; have c4 := HS4.out.blk.c1; have f4 := HS4.out.blk.f1; clear h4 ht4))
          refine bodyPost_end (results_none rfl _ _ _) rfl ?_
          refine ⟨a4, v4, o4, rfl, ?_, ?_⟩
          · rw [HRE.out]
            simp only
            rw [S_B]
            exact HS4.out.at_ _
          · exact ((HT3.out.mono (fun _ _ e => .inl e)).trans HT4.out).trans ((Turned.put _ _ _ _).mono (fun _ _ e => .inl e))
end Go.Proofs.YtnjnoabldjodcaaDoor.Tok
set_option linter.unusedVariables false
set_option linter.unusedSimpArgs false
namespace Go.Proofs.YtnjnoabldjodcaaDoor.Tok
open Go.RowKit Go.Proofs.YtnjnoabldjodcaaDoorW.PrintWords Go.Proofs.YtnjnoabldjodcaaDoorW.PrintLast Go.Proofs.YtnjnoabldjodcaaDoorW.PrintMore Go.Proofs.YtnjnoabldjodcaaDoor.PFnExactTokens
theorem row_head {w : World} {base A_ c n : Nat} {e : TypeId} {x : ByteArray} {F : List ByteArray} (h : w.ownsRow base e 1 (.slice (some ⟨A_, 0, none⟩) n c) n ((x :: F).map Value.string)) : w.cell? ⟨A_, 0, none⟩ = some (.string x) := by
  obtain ⟨hl, h⟩ := h
  rcases h with ⟨h, _⟩ | ⟨g, cap, cur, h, _, hb, hn, _, hsz, ht⟩
  · cases h
  · injection h with h1 h2 h3
    injection h1 with h1
    injection h1 with h1
    subst h1
    refine blk_cell hb 0 |>.trans ?_
    have h0 : (cur.toList.take (n * 1))[0]? = some (.string x) := by rw [ht]; rfl
    rw [List.getElem?_take] at h0
    split at h0
    · simpa using h0
    · cases h0
theorem enters73 : ∀ args w, (callFunc 73 args).run Tryd.prog w = .ok (.enter 73 args) w :=
  enters_of Tryd.func73 (by kernel_rfl) rfl
set_option maxRecDepth 100000 in
theorem wr_calls (x : Nat) (hx : x ≤ 1114111) (w : World) : Calls Tryd.prog 73 #[.int .i32 x] w fun e w' => e = .returned (.bool (wr x)) ∧ w' = w := by
  obtain ⟨r, hr⟩ : ∃ r, r = wr x := ⟨_, rfl⟩
  rw [← hr]
  by_cases h : x < 128
  · have HR := Aside0.mk (show r = white (x : Int) by rw [hr]; unfold wr; rw [decide_eq_true h]; rfl)
    have hd : decide ((x : Int) < 128) = true := decide_eq_true (by omega)
    clear hr
    go_enter Tryd.func73, Tryd.ntmps73
    go_wp2
    all_goals
      go_ret
      exact ⟨ret_bool (by rw [HR.out]; simp [white, *]), rfl⟩
  · have HR := Aside0.mk (show r = false by rw [hr]; unfold wr; rw [decide_eq_false h]; rfl)
    have hd : decide ((x : Int) < 128) = false := decide_eq_false (by omega)
    clear hr
    go_enter Tryd.func73, Tryd.ntmps73
    go_wp2
    go_ret
    exact ⟨by rw [HR.out]; rfl, rfl⟩
set_option maxRecDepth 100000 in
theorem word_calls (s : ByteArray) (hs : s.size < 2 ^ 30) (w : World) : Calls Tryd.prog 46 #[.string s] w fun e w' => e = .returned (.string (wordOf s)) ∧ Below w.heap.size w w' := by
  have HF := Aside0.mk (Tryd.strings_FieldsFunc_runes 73 #[] enters73 wr s w (by omega) (fun W x hx _ => (wr_calls x hx W).mono (fun e w' h => ⟨h.1, 0, h.2⟩)))
  obtain ⟨F, hF⟩ : ∃ F, F = Go.Lib.goFieldsP wr s := ⟨_, rfl⟩
  obtain ⟨R, hR⟩ : ∃ R, R = wordOf s := ⟨_, rfl⟩
  rw [← hR]
  rw [← hF] at HF
  have HR := Aside0.mk (show R = F.head?.getD ⟨#[]⟩ by rw [hR, hF]; rfl)
  clear hF hR hs
  cases F with
  | nil =>
    go_enter Tryd.func46, Tryd.ntmps46
    go_wp2_with ((go_at_call 72; refine HF.out.mono ?_; rintro e w1 ⟨A_, rfl, hA, hrow, hb⟩; have HB := Aside0.mk hb; clear hrow hb hA))
    go_ret
    exact ⟨by rw [HR.out]; rfl, HB.out⟩
  | cons x F =>
    go_enter Tryd.func46, Tryd.ntmps46
    go_wp2_with ((go_at_call 72; refine HF.out.mono ?_; rintro e w1 ⟨A_, rfl, hA, hrow, hb⟩; have HB := Aside0.mk hb; have hc : w1.cell? ⟨A_, 0, none⟩ = some (.string x) := (row_head hrow); clear hrow hb hA))
    go_ret
    exact ⟨by rw [HR.out]; rfl, HB.out⟩
end Go.Proofs.YtnjnoabldjodcaaDoor.Tok
