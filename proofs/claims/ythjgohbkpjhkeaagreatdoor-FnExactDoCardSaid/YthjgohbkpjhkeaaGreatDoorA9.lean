/- Part 9 of the proof: DoMoveL, DoUpd, DoSeat, DoPar. -/
import Derived.Test.YthjgohbkpjhkeaaGreatDoorA1
import Derived.Test.YthjgohbkpjhkeaaGreatDoorA8
set_option linter.unusedVariables false
set_option linter.unusedSimpArgs false
set_option maxHeartbeats 4000000
set_option maxRecDepth 100000
namespace Go.Proofs.YthjgohbkpjhkeaaGreatDoor.Impl
open Go.RowKit Go.Proofs.YthjgohbkpjhkeaaGreatDoorW.PrintWords Go.Proofs.YthjgohbkpjhkeaaGreatDoorW.PrintLast Go.Proofs.YthjgohbkpjhkeaaGreatDoorW.PrintMore Go.Proofs.YthjgohbkpjhkeaaGreatDoor.PFnExactDo Go.Proofs.YthjgohbkpjhkeaaGreatDoor.MapLib Go.Proofs.YthjgohbkpjhkeaaGreatDoor.FireSpec Go.Proofs.YthjgohbkpjhkeaaGreatDoor.Tr Go.Proofs.YthjgohbkpjhkeaaGreatDoor.Fo
def isUp (pr : Nat → Option Nat) (j : Nat) : Nat → Option Nat → Bool
 | _, none => false
 | 0, some _ => false
 | k + 1, some p => if p = j then true else isUp pr j k (pr p)
def moveCode (ns : List S95) (pr : Nat → Option Nat) (C : Chg) : Option Int :=
 match place ns C.f1 with
 | none => some 2
 | some j => match goalCode ns pr C with
  | some k => some k
  | none => match place ns C.f2 with
   | none => some 2
   | some p => if decide (j = 0) || !(kindAt ns p == 2 || kindAt ns p == 1) || (C.f3 != -1 && C.f3 == C.f1) then some 3
    else if isUp pr j (p + 1) (some p) then some 3 else none
abbrev mbox (C : Chg) (A : Option Addr) (c : Nat) : Obj := .cells #[.int .i64 C.f0, .int .i64 C.f1, .int .i64 C.f2, .int .i64 C.f3, .string C.f4, .string C.f5, .int .i64 C.f6, .slice A C.f7.length c] 161
theorem cells8 {W : World} {b : Nat} {C : Chg} {A : Option Addr} {c : Nat} (h : W.heap[b]? = some (mbox C A c)) : W.cell? ⟨b, 0, none⟩ = some (.int .i64 C.f0) ∧ W.cell? ⟨b, 1, none⟩ = some (.int .i64 C.f1) ∧ W.cell? ⟨b, 2, none⟩ = some (.int .i64 C.f2) ∧ W.cell? ⟨b, 3, none⟩ = some (.int .i64 C.f3) ∧ W.cell? ⟨b, 4, none⟩ = some (.string C.f4) ∧ W.cell? ⟨b, 5, none⟩ = some (.string C.f5) ∧ W.cell? ⟨b, 6, none⟩ = some (.int .i64 C.f6) ∧ W.cell? ⟨b, 7, none⟩ = some (.slice A C.f7.length c) :=
 ⟨blk_cell h 0, blk_cell h 1, blk_cell h 2, blk_cell h 3, blk_cell h 4, blk_cell h 5, blk_cell h 6, blk_cell h 7⟩
theorem move_look (w : World) (g : Nat) (ns : List S95) (bs : List Nat) (C : Chg) (A : Option Addr) (c : Nat) (hg : GMap w g ns bs) (hl : bs.length = ns.length) (hd : (ns.map (·.f0)).Nodup) (pr : Nat → Option Nat) (ht : Twigs w ns bs pr) (hnd : bs.Nodup) (hpr : ∀ p q, pr p = some q → q < p) :
  Calls Tryz.prog 166 #[chv C A c, .pointer (some ⟨g, 0, none⟩)] w (LookEnd w (moveCode ns pr C)) := by
 have hb := (Below.refl w.heap.size w).alloc (Nat.le_refl _) (mbox C A c)
 have HB := am hb
 have HT := am (target_calls _ g ns bs C A c (hg.below hb) hl hd)
 have HGO := am (fun W (hW : Below w.heap.size w W) => goal_calls W g ns bs C A c (hg.below hW) hl hd pr (ht.below hW) hnd)
 clear hb
 unfold mbox at *
 cases hp : place ns C.f1 with
 | none =>
  rw [hp, if_neg (by simp)] at HT
  have HE := am (show moveCode ns pr C = some 2 by unfold moveCode; rw [hp])
  clear hp hg hl hd ht HGO
  go_enter Tryz.func166, Tryz.ntmps166
  go_wp2_with (first | (go_at_call 163; refine HT.out.mono ?_; rintro e w1 ⟨hb1, r, rfl, hr, hc1⟩; have HB1 := am (And.intro hb1 hr); clear hb1 hr))
  go_ret
  rw [HE.out]
  exact LookEnd.next HB.out ⟨HB1.out.1, r, rfl, HB1.out.2, hc1⟩
 | some j =>
  rw [hp, if_pos (by simp)] at HT
  cases he : goalCode ns pr C with
  | some k =>
   have HE := am (show moveCode ns pr C = some k by unfold moveCode; rw [hp]; simp only; rw [he])
   have HG2 := am (fun W (hW : Below w.heap.size w W) => he ▸ HGO.out W hW)
   have hut := Tryz.underlying33
   clear hp hg hl hd ht HGO he
   go_enter Tryz.func166, Tryz.ntmps166
   go_wp2_with (first | (go_at_call 163; refine HT.out.mono ?_; rintro e w1 ⟨hb1, rfl⟩; have HB1 := am (below_step HB.out hb1); obtain ⟨x0, x1, x2, x3, x4, x5, x6, x7⟩ := cells8 (blk_below (blk_newest w (mbox C A c)) hb1); clear hb1) | (go_at_call 151; refine (HG2.out _ HB1.out).mono ?_; rintro e w2 ⟨hb2, r, rfl, hr, hc1⟩; have HB2 := am (And.intro hb2 hr); clear hb2 hr))
   go_ret
   rw [HE.out]
   exact LookEnd.next HB1.out ⟨HB2.out.1, r, rfl, HB2.out.2, hc1⟩
  | none =>
   have HG2 := am (fun W (hW : Below w.heap.size w W) => he ▸ HGO.out W hW)
   obtain ⟨p, hp2⟩ : ∃ p, place ns C.f2 = some p := by
    unfold goalCode at he
    cases hp : place ns C.f2 with
    | none => rw [hp] at he; cases he
    | some j => exact ⟨j, rfl⟩
   have hjl := (place_some hp).1
   have hpl := (place_some hp2).1
   have hE : moveCode ns pr C = (if decide (j = 0) || !holdsF ns[p] || (C.f3 != -1 && C.f3 == C.f1) then some 3 else if isUp pr j (p + 1) (some p) then some 3 else none) := by
    unfold moveCode holdsF
    rw [hp, hp2]
    simp only
    rw [he, kindAt_of hpl]
   have HE := am hE
   have HG := am (And.intro hg (And.intro hl hd))
   have HTS := am ht
   have HL1 := am (show lkv ns bs C.f1 = .pointer (some ⟨bs.getD j 0, 0, none⟩) by unfold lkv; rw [hp]; rfl)
   have HL2 := am (show lkv ns bs C.f2 = .pointer (some ⟨bs.getD p 0, 0, none⟩) by unfold lkv; rw [hp2]; rfl)
   clear hp hp2 he hE HGO hg
   obtain ⟨⟨A0, c0, kv0, pl0, ha0, h0⟩, _⟩ := ht 0 (by omega)
   obtain ⟨⟨A1, c1, kv1, pl1, ha1, h1⟩, _⟩ := ht j hjl
   obtain ⟨⟨A2, c2, kv2, pl2, ha2, h2⟩, _⟩ := ht p hpl
   have HT0 := am h0
   have HTJ := am h1
   have HTP := am h2
   have HLEN := am (And.intro hl (And.intro hnd hpr))
   have HLS := am (And.intro hjl hpl)
   clear h0 h1 h2 ht hd ha0 ha1 ha2
   obtain ⟨n, hn⟩ : ∃ n, n = ns[p] := ⟨_, rfl⟩
   rw [← hn] at HTP HE
   clear hn
   obtain ⟨b0, hb0⟩ : ∃ b0, b0 = bs.getD 0 0 := ⟨_, rfl⟩
   obtain ⟨bp, hbp⟩ : ∃ bp, bp = bs.getD p 0 := ⟨_, rfl⟩
   have HB0 := am hb0
   have hut := Tryz.underlying33
   by_cases hj0 : j = 0
   ·have HE2 := am (show moveCode ns pr C = some 3 by rw [HE.out]; simp [hj0])
    rw [hj0, ← hb0] at HL1
    rw [← hbp] at HL2
    clear HE HTP HTJ hbp hj0 hb0
    go_enter Tryz.func166, Tryz.ntmps166
    go_wp2_with (first | (go_at_call 163; refine HT.out.mono ?_; rintro e w1 ⟨hb1, rfl⟩; have HB1 := am (below_step HB.out hb1); have HX1 := am (blk_below (blk_newest w (mbox C A c)) hb1); obtain ⟨x0, x1, x2, x3, x4, x5, x6, x7⟩ := cells8 HX1.out; clear hb1) | (go_at_call 151; refine (HG2.out _ HB1.out).mono ?_; rintro e w2 ⟨hb2, rfl⟩; clear x0 x1 x2 x3 x4 x5 x6 x7; have HB2 := am (below_step HB1.out hb2); have HX2 := am (blk_below HX1.out hb2); obtain ⟨x0, x1, x2, x3, x4, x5, x6, x7⟩ := cells8 HX2.out; obtain ⟨mb, _, hm, hq⟩ := (HG.out.1.below HB2.out).look HG.out.2 HL1.out; clear hb2))
    go_quiet (fail)
    obtain ⟨w3, hw3⟩ : ∃ w3, w3 = w2.drewN nq := ⟨_, rfl⟩
    have HB3 := am (show Below w.heap.size w w3 from hw3 ▸ pw_below_drewN HB2.out _)
    have HX3 := am (show w3.heap[w.heap.size]? = some (mbox C A c) from hw3 ▸ HX2.out)
    rw [← hw3]
    clear x0 x1 x2 x3 x4 x5 x6 x7 hm hq hw3 HB2 HX2 HB1 HX1
    obtain ⟨x0, x1, x2, x3, x4, x5, x6, x7⟩ := cells8 HX3.out
    obtain ⟨mb3, hm0, hm, hq⟩ := (HG.out.1.below HB3.out).look HG.out.2 HL2.out
    rw [← HB0.out] at hm0
    unfold ptr at hm0
    have hE := fun m => eq_same b0 (w3.drewN m)
    go_wp2
    go_quiet (fail)
    go_wp2_with (first | (go_at_call 75; refine (deny_calls 3 _).mono ?_; rintro e w' ⟨rfl, rfl⟩))
    go_ret
    rw [HE2.out]
    refine look_some 3 ?_ rfl
    repeat (first | exact HB3.out | apply pw_below_drewN | apply below_drew1)
   ·obtain ⟨bj, hbj⟩ : ∃ bj, bj = bs.getD j 0 := ⟨_, rfl⟩
    have hne : bj ≠ b0 := fun e => by
     rw [hbj, hb0, List.getD_eq_getElem?_getD, List.getD_eq_getElem?_getD, List.getElem?_eq_getElem (by omega), List.getElem?_eq_getElem (by omega)] at e
     exact hj0 ((List.getElem_inj hnd).1 (by simpa using e))
    have HNE := am hne
    have HBJ := am hbj
    have HBP := am hbp
    have HJ0 := am hj0
    rw [← hbj] at HTJ HL1
    rw [← hbp] at HTP HL2
    rw [← hb0] at HT0
    clear hne hbj hbp hj0 hnd hpr hpl hb0
    cases hh : holdsF n with
    | false =>
     have HE2 := am (show moveCode ns pr C = some 3 by rw [HE.out, hh]; simp)
     have HH := am (fun W (hb : Below w.heap.size w W) (m : Nat) => hh ▸ holds_calls (W.drewN m) bp n A2 c2 kv2 _ pl2 (show (W.drewN m).heap[bp]? = _ from (blk_below HTP.out hb : W.heap[bp]? = _)))
     clear HE hh
     go_enter Tryz.func166, Tryz.ntmps166
     go_wp2_with (first | (go_at_call 163; refine HT.out.mono ?_; rintro e w1 ⟨hb1, rfl⟩; have HB1 := am (below_step HB.out hb1); have HX1 := am (blk_below (blk_newest w (mbox C A c)) hb1); obtain ⟨x0, x1, x2, x3, x4, x5, x6, x7⟩ := cells8 HX1.out; clear hb1) | (go_at_call 151; refine (HG2.out _ HB1.out).mono ?_; rintro e w2 ⟨hb2, rfl⟩; clear x0 x1 x2 x3 x4 x5 x6 x7; have HB2 := am (below_step HB1.out hb2); have HX2 := am (blk_below HX1.out hb2); obtain ⟨x0, x1, x2, x3, x4, x5, x6, x7⟩ := cells8 HX2.out; obtain ⟨mb, _, hm, hq⟩ := (HG.out.1.below HB2.out).look HG.out.2 HL1.out; clear hb2))
     go_quiet (fail)
     obtain ⟨w3, hw3⟩ : ∃ w3, w3 = w2.drewN nq := ⟨_, rfl⟩
     have HB3 := am (show Below w.heap.size w w3 from hw3 ▸ pw_below_drewN HB2.out _)
     have HX3 := am (show w3.heap[w.heap.size]? = some (mbox C A c) from hw3 ▸ HX2.out)
     rw [← hw3]
     clear x0 x1 x2 x3 x4 x5 x6 x7 hm hq hw3 HB2 HX2 HB1 HX1
     obtain ⟨x0, x1, x2, x3, x4, x5, x6, x7⟩ := cells8 HX3.out
     obtain ⟨mb3, hm0, hm, hq⟩ := (HG.out.1.below HB3.out).look HG.out.2 HL2.out
     rw [← HB0.out] at hm0
     unfold ptr at hm0
     have hE := eq_others HNE.out (blk_below HTJ.out HB3.out) (blk_below HT0.out HB3.out)
     go_wp2
     go_quiet (first | (go_at_call 152; refine (HH.out _ HB3.out _).mono ?_; rintro e w' ⟨rfl, rfl⟩; exact ⟨rfl, _, rfl⟩))
     go_wp2_with (first | (go_at_call 75; refine (deny_calls 3 _).mono ?_; rintro e w' ⟨rfl, rfl⟩))
     go_ret
     rw [HE2.out]
     refine look_some 3 ?_ rfl
     repeat (first | exact HB3.out | apply pw_below_drewN | apply below_drew1)
    | true =>
     have HH := am (fun W (hb : Below w.heap.size w W) (m : Nat) => hh ▸ holds_calls (W.drewN m) bp n A2 c2 kv2 _ pl2 (show (W.drewN m).heap[bp]? = _ from (blk_below HTP.out hb : W.heap[bp]? = _)))
     by_cases h3 : (C.f3 != -1 && C.f3 == C.f1) = true
     ·have HE2 := am (show moveCode ns pr C = some 3 by rw [HE.out, h3]; simp)
      have h3a : (C.f3 != -1) = true := by simp at h3 ⊢; exact h3.1
      have h3b : (C.f3 == C.f1) = true := by simp at h3 ⊢; exact h3.2
      clear HE hh h3
      go_enter Tryz.func166, Tryz.ntmps166
      go_wp2_with (first | (go_at_call 163; refine HT.out.mono ?_; rintro e w1 ⟨hb1, rfl⟩; have HB1 := am (below_step HB.out hb1); have HX1 := am (blk_below (blk_newest w (mbox C A c)) hb1); obtain ⟨x0, x1, x2, x3, x4, x5, x6, x7⟩ := cells8 HX1.out; clear hb1) | (go_at_call 151; refine (HG2.out _ HB1.out).mono ?_; rintro e w2 ⟨hb2, rfl⟩; clear x0 x1 x2 x3 x4 x5 x6 x7; have HB2 := am (below_step HB1.out hb2); have HX2 := am (blk_below HX1.out hb2); obtain ⟨x0, x1, x2, x3, x4, x5, x6, x7⟩ := cells8 HX2.out; obtain ⟨mb, _, hm, hq⟩ := (HG.out.1.below HB2.out).look HG.out.2 HL1.out; clear hb2))
      go_quiet (fail)
      obtain ⟨w3, hw3⟩ : ∃ w3, w3 = w2.drewN nq := ⟨_, rfl⟩
      have HB3 := am (show Below w.heap.size w w3 from hw3 ▸ pw_below_drewN HB2.out _)
      have HX3 := am (show w3.heap[w.heap.size]? = some (mbox C A c) from hw3 ▸ HX2.out)
      rw [← hw3]
      clear x0 x1 x2 x3 x4 x5 x6 x7 hm hq hw3 HB2 HX2 HB1 HX1
      obtain ⟨x0, x1, x2, x3, x4, x5, x6, x7⟩ := cells8 HX3.out
      obtain ⟨mb3, hm0, hm, hq⟩ := (HG.out.1.below HB3.out).look HG.out.2 HL2.out
      rw [← HB0.out] at hm0
      unfold ptr at hm0
      have hE := eq_others HNE.out (blk_below HTJ.out HB3.out) (blk_below HT0.out HB3.out)
      go_wp2
      go_quiet (first | (go_at_call 152; refine (HH.out _ HB3.out _).mono ?_; rintro e w' ⟨rfl, rfl⟩; exact ⟨rfl, _, rfl⟩))
      go_wp2_with (first | (go_at_call 75; refine (deny_calls 3 _).mono ?_; rintro e w' ⟨rfl, rfl⟩))
      go_ret
      rw [HE2.out]
      refine look_some 3 ?_ rfl
      repeat (first | exact HB3.out | apply pw_below_drewN | apply below_drew1)
     ·have HE2 := am (show moveCode ns pr C = if isUp pr j (p + 1) (some p) then some 3 else none by rw [HE.out, hh, (by simpa using h3 : (C.f3 != -1 && C.f3 == C.f1) = false)]; simp [HJ0.out])
      clear HE hh
      cases h3a : (C.f3 != -1) with
      | false =>
       clear h3
       go_enter Tryz.func166, Tryz.ntmps166
       go_wp2_with (first | (go_at_call 163; refine HT.out.mono ?_; rintro e w1 ⟨hb1, rfl⟩; have HB1 := am (below_step HB.out hb1); have HX1 := am (blk_below (blk_newest w (mbox C A c)) hb1); obtain ⟨x0, x1, x2, x3, x4, x5, x6, x7⟩ := cells8 HX1.out; clear hb1) | (go_at_call 151; refine (HG2.out _ HB1.out).mono ?_; rintro e w2 ⟨hb2, rfl⟩; clear x0 x1 x2 x3 x4 x5 x6 x7; have HB2 := am (below_step HB1.out hb2); have HX2 := am (blk_below HX1.out hb2); obtain ⟨x0, x1, x2, x3, x4, x5, x6, x7⟩ := cells8 HX2.out; obtain ⟨mb, _, hm, hq⟩ := (HG.out.1.below HB2.out).look HG.out.2 HL1.out; clear hb2))
       go_quiet (fail)
       obtain ⟨w3, hw3⟩ : ∃ w3, w3 = w2.drewN nq := ⟨_, rfl⟩
       have HB3 := am (show Below w.heap.size w w3 from hw3 ▸ pw_below_drewN HB2.out _)
       have HX3 := am (show w3.heap[w.heap.size]? = some (mbox C A c) from hw3 ▸ HX2.out)
       rw [← hw3]
       clear x0 x1 x2 x3 x4 x5 x6 x7 hm hq hw3 HB2 HX2 HB1 HX1
       obtain ⟨x0, x1, x2, x3, x4, x5, x6, x7⟩ := cells8 HX3.out
       obtain ⟨mb3, hm0, hm, hq⟩ := (HG.out.1.below HB3.out).look HG.out.2 HL2.out
       rw [← HB0.out] at hm0
       unfold ptr at hm0
       have hE := eq_others HNE.out (blk_below HTJ.out HB3.out) (blk_below HT0.out HB3.out)
       go_wp2
       go_quiet (first | (go_at_call 152; refine (HH.out _ HB3.out _).mono ?_; rintro e w' ⟨rfl, rfl⟩; exact ⟨rfl, _, rfl⟩))
       go_wp2
       obtain ⟨w4, hw4⟩ : ∃ w4, w4 = w3.drewN nq := ⟨_, rfl⟩
       have HB4 := am (show Below w.heap.size w w4 from hw4 ▸ pw_below_drewN HB3.out _)
       have HX4 := am (show w4.heap[w.heap.size]? = some (mbox C A c) from hw4 ▸ HX3.out)
       rw [← hw4]
       clear x0 x1 x2 x3 x4 x5 x6 x7 hm0 hm hq hw4 HB3 HX3 hE
       obtain ⟨x0, x1, x2, x3, x4, x5, x6, x7⟩ := cells8 HX4.out
       obtain ⟨mb4, _, hm, hq⟩ := (HG.out.1.below HB4.out).look HG.out.2 HL2.out
       go_quiet (fail)
       go_wp2
       obtain ⟨w5, hw5⟩ : ∃ w5, w5 = w4.drewN nq := ⟨_, rfl⟩
       have HB5 := am (show Below w.heap.size w w5 from hw5 ▸ pw_below_drewN HB4.out _)
       rw [← hw5]
       clear x0 x1 x2 x3 x4 x5 x6 x7 hm hq hw5 HB4 HX4
       have hE1 := eq_same bj w5
       have HEO := am (show ∀ q, q < ns.length → q ≠ j → bs.getD q 0 ≠ bj ∧ w5.cell? ⟨bs.getD q 0, 7, none⟩ = some (upv bs (pr q)) ∧ (∀ q', pr q = some q' → q' < ns.length) ∧ (binOp .eql 97 (.pointer (some ⟨bs.getD q 0, 0, none⟩)) (.pointer (some ⟨bj, 0, none⟩))).run Tryz.prog w5 = .ok (.bool false) w5 from fun q hq hqj => by
        obtain ⟨⟨A5, c5, kv5, pl5, _, h5⟩, h6⟩ := HTS.out q hq
        have hne : bs.getD q 0 ≠ bj := fun e => by
         rw [HBJ.out, List.getD_eq_getElem?_getD, List.getD_eq_getElem?_getD, List.getElem?_eq_getElem (by have := HLEN.out.1; omega), List.getElem?_eq_getElem (by have := HLEN.out.1; have := HLS.out.1; omega)] at e
         exact hqj ((List.getElem_inj HLEN.out.2.1).1 (by simpa using e))
        exact ⟨hne, (twig_cells (blk_below h5 HB5.out)).2.2.1, h6, eq_others hne (blk_below h5 HB5.out) (blk_below HTJ.out HB5.out) 0⟩)
       go_loopg [8] (p + 2) (fun kq v8 wr => ∃ o : Option Nat, upv bs o = v8 ∧ Aside0 (isUp pr j (p + 1) (some p) = isUp pr j (kq - 1) o ∧ 1 ≤ kq ∧ ∀ q, o = some q → q + 2 ≤ kq ∧ q < ns.length) ∧ w5 = wr)
       case atStart => exact ⟨some p, by rw [HBP.out]; rfl, ⟨by simp, by omega, fun q e => by injection e with e; subst e; exact ⟨by omega, HLS.out.2⟩⟩, rfl⟩
       case round =>
        obtain ⟨o, rfl, HJ, rfl⟩ := hrel
        cases o with
        | none =>
         have HR := am (show moveCode ns pr C = none by rw [HE2.out, HJ.out.1]; cases gk - 1 <;> rfl)
         unfold upv
         go_wp2
         go_ret
         rw [HR.out]
         exact ⟨HB5.out, rfl⟩
        | some q =>
         obtain ⟨hk2, hql⟩ := HJ.out.2.2 q rfl
         obtain ⟨k, hk⟩ : ∃ k, gk = k + 2 := ⟨gk - 2, by omega⟩
         have hst : isUp pr j (gk - 1) (some q) = if q = j then true else isUp pr j k (pr q) := by rw [hk]; rfl
         by_cases hqj : q = j
         ·have HR := am (show moveCode ns pr C = some 3 by rw [HE2.out, HJ.out.1, hst, if_pos hqj]; rfl)
          have hv : upv bs (some q) = .pointer (some ⟨bj, 0, none⟩) := by rw [hqj, HBJ.out]; rfl
          rw [hv]
          clear hst hqj hv hql
          go_wp2_with (first | (go_at_call 75; refine (deny_calls 3 _).mono ?_; rintro e w' ⟨rfl, rfl⟩))
          go_ret
          rw [HR.out]
          exact look_some 3 HB5.out rfl
         ·obtain ⟨_, hc7, hqq, hE5⟩ := HEO.out q hql hqj
          have HR := am (show isUp pr j (p + 1) (some p) = isUp pr j k (pr q) by rw [HJ.out.1, hst, if_neg hqj])
          have HQ := am hqq
          have hv : upv bs (some q) = .pointer (some ⟨bs.getD q 0, 0, none⟩) := rfl
          rw [hv]
          obtain ⟨bq, hbq⟩ : ∃ bq, bq = bs.getD q 0 := ⟨_, rfl⟩
          rw [← hbq] at hc7 hE5 ⊢
          clear hbq hv
          generalize hu : upv bs (pr q) = u at hc7
          have HU := am hu
          clear hst hqj hql hqq hu
          go_wp2
          go_roundg (gk - 1)
          case measure => omega
          case rel =>
           refine ⟨pr q, HU.out, ⟨by rw [HR.out, hk]; rfl, by omega, fun q' e => ⟨?_, HQ.out q' e⟩⟩, rfl⟩
           have := HLEN.out.2.2 q q' e
           omega
      | true =>
       have h3b : (C.f3 == C.f1) = false := by rw [h3a] at h3; simpa using h3
       clear h3
       go_enter Tryz.func166, Tryz.ntmps166
       go_wp2_with (first | (go_at_call 163; refine HT.out.mono ?_; rintro e w1 ⟨hb1, rfl⟩; have HB1 := am (below_step HB.out hb1); have HX1 := am (blk_below (blk_newest w (mbox C A c)) hb1); obtain ⟨x0, x1, x2, x3, x4, x5, x6, x7⟩ := cells8 HX1.out; clear hb1) | (go_at_call 151; refine (HG2.out _ HB1.out).mono ?_; rintro e w2 ⟨hb2, rfl⟩; clear x0 x1 x2 x3 x4 x5 x6 x7; have HB2 := am (below_step HB1.out hb2); have HX2 := am (blk_below HX1.out hb2); obtain ⟨x0, x1, x2, x3, x4, x5, x6, x7⟩ := cells8 HX2.out; obtain ⟨mb, _, hm, hq⟩ := (HG.out.1.below HB2.out).look HG.out.2 HL1.out; clear hb2))
       go_quiet (fail)
       obtain ⟨w3, hw3⟩ : ∃ w3, w3 = w2.drewN nq := ⟨_, rfl⟩
       have HB3 := am (show Below w.heap.size w w3 from hw3 ▸ pw_below_drewN HB2.out _)
       have HX3 := am (show w3.heap[w.heap.size]? = some (mbox C A c) from hw3 ▸ HX2.out)
       rw [← hw3]
       clear x0 x1 x2 x3 x4 x5 x6 x7 hm hq hw3 HB2 HX2 HB1 HX1
       obtain ⟨x0, x1, x2, x3, x4, x5, x6, x7⟩ := cells8 HX3.out
       obtain ⟨mb3, hm0, hm, hq⟩ := (HG.out.1.below HB3.out).look HG.out.2 HL2.out
       rw [← HB0.out] at hm0
       unfold ptr at hm0
       have hE := eq_others HNE.out (blk_below HTJ.out HB3.out) (blk_below HT0.out HB3.out)
       go_wp2
       go_quiet (first | (go_at_call 152; refine (HH.out _ HB3.out _).mono ?_; rintro e w' ⟨rfl, rfl⟩; exact ⟨rfl, _, rfl⟩))
       go_wp2
       obtain ⟨w4, hw4⟩ : ∃ w4, w4 = w3.drewN nq := ⟨_, rfl⟩
       have HB4 := am (show Below w.heap.size w w4 from hw4 ▸ pw_below_drewN HB3.out _)
       have HX4 := am (show w4.heap[w.heap.size]? = some (mbox C A c) from hw4 ▸ HX3.out)
       rw [← hw4]
       clear x0 x1 x2 x3 x4 x5 x6 x7 hm0 hm hq hw4 HB3 HX3 hE
       obtain ⟨x0, x1, x2, x3, x4, x5, x6, x7⟩ := cells8 HX4.out
       obtain ⟨mb4, _, hm, hq⟩ := (HG.out.1.below HB4.out).look HG.out.2 HL2.out
       go_quiet (fail)
       go_wp2
       obtain ⟨w5, hw5⟩ : ∃ w5, w5 = w4.drewN nq := ⟨_, rfl⟩
       have HB5 := am (show Below w.heap.size w w5 from hw5 ▸ pw_below_drewN HB4.out _)
       rw [← hw5]
       clear x0 x1 x2 x3 x4 x5 x6 x7 hm hq hw5 HB4 HX4
       have hE1 := eq_same bj w5
       have HEO := am (show ∀ q, q < ns.length → q ≠ j → bs.getD q 0 ≠ bj ∧ w5.cell? ⟨bs.getD q 0, 7, none⟩ = some (upv bs (pr q)) ∧ (∀ q', pr q = some q' → q' < ns.length) ∧ (binOp .eql 97 (.pointer (some ⟨bs.getD q 0, 0, none⟩)) (.pointer (some ⟨bj, 0, none⟩))).run Tryz.prog w5 = .ok (.bool false) w5 from fun q hq hqj => by
        obtain ⟨⟨A5, c5, kv5, pl5, _, h5⟩, h6⟩ := HTS.out q hq
        have hne : bs.getD q 0 ≠ bj := fun e => by
         rw [HBJ.out, List.getD_eq_getElem?_getD, List.getD_eq_getElem?_getD, List.getElem?_eq_getElem (by have := HLEN.out.1; omega), List.getElem?_eq_getElem (by have := HLEN.out.1; have := HLS.out.1; omega)] at e
         exact hqj ((List.getElem_inj HLEN.out.2.1).1 (by simpa using e))
        exact ⟨hne, (twig_cells (blk_below h5 HB5.out)).2.2.1, h6, eq_others hne (blk_below h5 HB5.out) (blk_below HTJ.out HB5.out) 0⟩)
       go_loopg [8] (p + 2) (fun kq v8 wr => ∃ o : Option Nat, upv bs o = v8 ∧ Aside0 (isUp pr j (p + 1) (some p) = isUp pr j (kq - 1) o ∧ 1 ≤ kq ∧ ∀ q, o = some q → q + 2 ≤ kq ∧ q < ns.length) ∧ w5 = wr)
       case atStart => exact ⟨some p, by rw [HBP.out]; rfl, ⟨by simp, by omega, fun q e => by injection e with e; subst e; exact ⟨by omega, HLS.out.2⟩⟩, rfl⟩
       case round =>
        obtain ⟨o, rfl, HJ, rfl⟩ := hrel
        cases o with
        | none =>
         have HR := am (show moveCode ns pr C = none by rw [HE2.out, HJ.out.1]; cases gk - 1 <;> rfl)
         unfold upv
         go_wp2
         go_ret
         rw [HR.out]
         exact ⟨HB5.out, rfl⟩
        | some q =>
         obtain ⟨hk2, hql⟩ := HJ.out.2.2 q rfl
         obtain ⟨k, hk⟩ : ∃ k, gk = k + 2 := ⟨gk - 2, by omega⟩
         have hst : isUp pr j (gk - 1) (some q) = if q = j then true else isUp pr j k (pr q) := by rw [hk]; rfl
         by_cases hqj : q = j
         ·have HR := am (show moveCode ns pr C = some 3 by rw [HE2.out, HJ.out.1, hst, if_pos hqj]; rfl)
          have hv : upv bs (some q) = .pointer (some ⟨bj, 0, none⟩) := by rw [hqj, HBJ.out]; rfl
          rw [hv]
          clear hst hqj hv hql
          go_wp2_with (first | (go_at_call 75; refine (deny_calls 3 _).mono ?_; rintro e w' ⟨rfl, rfl⟩))
          go_ret
          rw [HR.out]
          exact look_some 3 HB5.out rfl
         ·obtain ⟨_, hc7, hqq, hE5⟩ := HEO.out q hql hqj
          have HR := am (show isUp pr j (p + 1) (some p) = isUp pr j k (pr q) by rw [HJ.out.1, hst, if_neg hqj])
          have HQ := am hqq
          have hv : upv bs (some q) = .pointer (some ⟨bs.getD q 0, 0, none⟩) := rfl
          rw [hv]
          obtain ⟨bq, hbq⟩ : ∃ bq, bq = bs.getD q 0 := ⟨_, rfl⟩
          rw [← hbq] at hc7 hE5 ⊢
          clear hbq hv
          generalize hu : upv bs (pr q) = u at hc7
          have HU := am hu
          clear hst hqj hql hqq hu
          go_wp2
          go_roundg (gk - 1)
          case measure => omega
          case rel =>
           refine ⟨pr q, HU.out, ⟨by rw [HR.out, hk]; rfl, by omega, fun q' e => ⟨?_, HQ.out q' e⟩⟩, rfl⟩
           have := HLEN.out.2.2 q q' e
           omega
def tfoot (x : TW) (k : Fo TW) : List Nat := x.b :: (x.kv.ownBlock.toList ++ foot k)
theorem sub_foot {f : Fo TW} {y : TW} {l : Fo TW} (h : Sub f y l) : ∀ b ∈ tfoot y l, b ∈ foot f := by
 induction h with
 | here x k r => intro b hb; simp only [tfoot, foot, List.mem_cons, List.mem_append] at *; rcases hb with h | h | h <;> simp [h]
 | kid x k r y l _ ih => intro b hb; have := ih b hb; simp [foot, this]
 | next x k r y l _ ih => intro b hb; have := ih b hb; simp [foot, this]
theorem flat_foot : ∀ (f : Fo TW) (y : TW × Nat), y ∈ flat f → y.1.b ∈ foot f
 | .nil, y, h => by simp [flat] at h
 | .node x k r, y, h => by
  simp only [flat, List.mem_cons, List.mem_append] at h
  rcases h with rfl | h | h
  ·simp [foot]
  ·simp [foot, flat_foot k y h]
  ·simp [foot, flat_foot r y h]
theorem upd_other (b0 : Nat) (x' : TW → TW) (g : Fo TW → Fo TW) (f : Fo TW) (h : b0 ∉ foot f) : upd (fun y => y.b == b0) x' g f = f :=
 upd_none _ _ _ f (fun y hy => by
  have := flat_foot f y hy
  rw [beq_eq_false_iff_ne]
  exact fun e => h (e ▸ this))
theorem bsOf_upd (b0 : Nat) (x' : TW → TW) (g : Fo TW → Fo TW) (hx : ∀ y, (x' y).b = y.b) : ∀ f : Fo TW, bsOf (upd (fun y => y.b == b0) x' g f) = bsOf f
 | .nil => rfl
 | .node x k r => by
  unfold upd
  split
  ·simp [bsOf, tops, hx]
  ·have := bsOf_upd b0 x' g hx r
   unfold bsOf at *
   simp [tops, this]
theorem IsF.upd {w0 w w1 : World} {base b0 : Nat} {S : List Nat} {x' : TW → TW} {g : Fo TW → Fo TW} (hx : ∀ y, (x' y).b = y.b) {f : Fo TW} {y : TW} {l : Fo TW} (hs : Sub f y l) (hy : y.b = b0) (hS : ∀ b ∈ S, b ∈ tfoot y l)
  (hnew : ∀ up pl, TwigN w0 w y.b y.n y.kv up pl → IsF w0 w base (ptr y.b) 0 l → PtrRow w base y.kv (bsOf l) → (TwigN w0 w1 y.b (x' y).n (x' y).kv up pl ∧ base ≤ y.b ∧ (x' y).n.f5 = (len (g l) : Int) ∧ PtrRow w1 base (x' y).kv (bsOf (g l))) ∧ IsF w0 w1 base (ptr y.b) 0 (g l)) :
  ∀ (up : Value) (i : Nat), IsF w0 w base up i f → (foot f).Nodup → (∀ b ∈ foot f, b ∉ S → w1.heap[b]? = w.heap[b]?) → IsF w0 w1 base up i (upd (fun y => y.b == b0) x' g f) := by
 induction hs with
 | here x k r =>
  intro up i ⟨⟨h1, h2, h3, h4⟩, h5, h6⟩ hd hk
  have e : Fo.upd (fun y : TW => y.b == b0) x' g (.node x k r) = .node (x' x) (g k) r := by simp [Fo.upd, hy]
  rw [e]
  obtain ⟨⟨n1, n2, n3, n4⟩, n5⟩ := hnew up i h1 h5 h4
  refine ⟨⟨by rw [hx]; exact n1, by rw [hx]; exact n2, n3, n4⟩, by rw [hx]; exact n5, IsF.keep r _ _ h6 (fun b hb => hk b (by simp [foot, hb]) (fun hbS => ?_))⟩
  have h7 := hS b hbS
  simp only [foot, tfoot] at hd h7
  rw [← List.append_assoc, ← List.cons_append] at hd
  exact (List.nodup_append.1 hd).2.2 b h7 b hb rfl
 | kid x k r y l hs ih =>
  intro up i ⟨⟨h1, h2, h3, h4⟩, h5, h6⟩ hd hk
  have hsub := sub_foot hs
  simp only [foot] at hd
  have hd1 := (List.nodup_cons.1 hd)
  have hd2 := List.nodup_append.1 hd1.2
  have hd3 := List.nodup_append.1 hd2.2.1
  have hyk : y.b ∈ foot k := hsub _ (by simp [tfoot])
  have hxy : x.b ≠ b0 := fun e => hd1.1 (by rw [e, ← hy]; simp [hyk])
  have hbr : b0 ∉ foot r := fun e => hd3.2.2 _ hyk _ (hy ▸ e) rfl
  have e : Fo.upd (fun y : TW => y.b == b0) x' g (.node x k r) = .node x (Fo.upd (fun y : TW => y.b == b0) x' g k) r := by
   simp [Fo.upd, hxy, upd_other b0 x' g r hbr]
  rw [e]
  have hSk : ∀ b ∈ S, b ∈ foot k := fun b hb => hsub b (hS b hb)
  refine ⟨⟨h1.keep (hk _ (by simp [foot]) (fun hb => hd1.1 (by simp [hSk _ hb]))), h2, by rw [len_upd]; exact h3, ?_⟩, ih hy hS hnew _ _ h5 hd3.1 (fun b hb => hk b (by simp [foot, hb])), IsF.keep r _ _ h6 (fun b hb => hk b (by simp [foot, hb]) (fun hbS => hd3.2.2 b (hSk b hbS) b hb rfl))⟩
  rw [bsOf_upd b0 x' g hx]
  exact row_keep h4 (fun b hb => hk b (by simp [foot, hb]) (fun hbS => hd2.2.2 b (by simp [hb]) b (by simp [hSk b hbS]) rfl))
 | next x k r y l hs ih =>
  intro up i ⟨⟨h1, h2, h3, h4⟩, h5, h6⟩ hd hk
  have hsub := sub_foot hs
  simp only [foot] at hd
  have hd1 := (List.nodup_cons.1 hd)
  have hd2 := List.nodup_append.1 hd1.2
  have hd3 := List.nodup_append.1 hd2.2.1
  have hyr : y.b ∈ foot r := hsub _ (by simp [tfoot])
  have hxy : x.b ≠ b0 := fun e => hd1.1 (by rw [e, ← hy]; simp [hyr])
  have hbk : b0 ∉ foot k := fun e => hd3.2.2 _ (hy ▸ e) _ hyr rfl
  have e : Fo.upd (fun y : TW => y.b == b0) x' g (.node x k r) = .node x k (Fo.upd (fun y : TW => y.b == b0) x' g r) := by
   simp [Fo.upd, hxy, upd_other b0 x' g k hbk]
  rw [e]
  have hSr : ∀ b ∈ S, b ∈ foot r := fun b hb => hsub b (hS b hb)
  exact ⟨⟨h1.keep (hk _ (by simp [foot]) (fun hb => hd1.1 (by simp [hSr _ hb]))), h2, h3, row_keep h4 (fun b hb => hk b (by simp [foot, hb]) (fun hbS => hd2.2.2 b (by simp [hb]) b (by simp [hSr b hbS]) rfl))⟩,
   IsF.keep k _ _ h5 (fun b hb => hk b (by simp [foot, hb]) (fun hbS => hd3.2.2 b hb b (hSr b hbS) rfl)), ih hy hS hnew _ _ h6 hd3.2.1 (fun b hb => hk b (by simp [foot, hb]))⟩
def footL (l : List TW) : List Nat := l.flatMap (fun x => x.b :: x.kv.ownBlock.toList)
theorem foot_flat : ∀ f : Fo TW, foot f = footL ((flat f).map (·.1))
 | .nil => rfl
 | .node x k r => by
  simp only [foot, flat, footL, List.map_cons, List.map_append, List.flatMap_cons, List.flatMap_append, List.cons_append]
  rw [foot_flat k, foot_flat r]
  rfl
theorem grow_tops (pay : Nat → TW) (kk : List Nat) : ∀ (d p m e : Nat), E kk p m = some e → e - p ≤ d → ∀ t, t < m → ∃ q, E kk p t = some q ∧ (tops (Fo.grow pay kk d p m))[t]? = some (pay q)
 | d, p, 0, e, h, hd, t, ht => absurd ht (Nat.not_lt_zero _)
 | 0, p, m + 1, e, h, hd, t, ht => by
  have := (E_bounds h).2 (by omega)
  omega
 | d + 1, p, m + 1, e, h, hd, t, ht => by
  have hb := (E_bounds h).2 (by omega)
  have hp : p < kk.length := by omega
  cases t with
  | zero => exact ⟨p, E_zero kk p, by simp [Fo.grow, tops]⟩
  | succ t =>
   have h' := h
   rw [E_step hp, E_add] at h'
   cases hq : E kk (p + 1) (kk.getD p 0) with
   | none => rw [hq] at h'; cases h'
   | some q =>
    rw [hq] at h'
    simp only [Option.bind_some] at h'
    have hq1 := E_bounds hq
    obtain ⟨q2, h1, h2⟩ := grow_tops pay kk d q m e h' (by omega) t (by omega)
    refine ⟨q2, ?_, ?_⟩
    ·rw [E_step hp, E_add, hq]
     exact h1
    ·simp only [Fo.grow, hq, Option.getD_some, tops, List.getElem?_cons_succ]
     exact h2
def payOf (ns : List S95) (bs : List Nat) (KV : Nat → Value) (j : Nat) : TW := ⟨bs.getD j 0, ns.getD j z95, KV j⟩
section
variable {ns : List S95} {R : World → Prop} {w0 w : World} {base : Nat} {bs : List Nat} {lv : Value} {KV : Nat → Value}
theorem twigN_of {b : Nat} {n : S95} {kv up : Value} {pl : Int} (h : Twig R w b n kv up pl) (hR : R w0) (hn : n.f3.length ≤ 1000000000) : TwigN w0 w b n kv up pl := by
 obtain ⟨A, c, h1, h2, h3⟩ := h
 exact ⟨A, c, ⟨hn, h1, h2 _ hR⟩, h3⟩
theorem rowOf (hG : Grown ns R w base bs lv KV) (p d e : Nat) (hp : p < ns.length) (he : E (kids ns) (p + 1) ((kids ns).getD p 0) = some e) (hd : e - (p + 1) ≤ d) : PtrRow w base (KV p) (bsOf (Fo.grow (payOf ns bs KV) (kids ns) d (p + 1) ((kids ns).getD p 0))) := by
 obtain ⟨kl, hr, hl, hk⟩ := hG.laid.row p (Nat.zero_le _) hp
 have e1 : bsOf (Fo.grow (payOf ns bs KV) (kids ns) d (p + 1) ((kids ns).getD p 0)) = kl := by
  refine List.ext_getElem? (fun t => ?_)
  rcases Nat.lt_or_ge t ((kids ns).getD p 0) with ht | ht
  ·obtain ⟨q, h1, h2⟩ := grow_tops (payOf ns bs KV) (kids ns) d (p + 1) _ e he hd t ht
   rw [hk t q ⟨by simpa [kids] using hp, ht, h1⟩]
   simp only [bsOf, List.getElem?_map, h2]
   rfl
  ·rw [List.getElem?_eq_none (by rw [bsOf_length, (grow_flat (payOf ns bs KV) (kids ns) d (p + 1) _ e he hd).1]; exact ht), List.getElem?_eq_none (by omega)]
 rw [e1]
 exact hr
theorem isF_grow (hG : Grown ns R w base bs lv KV) (hR : R w0) (hn : ∀ n ∈ ns, n.f3.length ≤ 1000000000) (hk : ∀ n ∈ ns, 0 ≤ n.f5) : ∀ (d P p i m e : Nat), E (kids ns) p m = some e → e - p ≤ d → e ≤ ns.length → (∀ t q, t < m → E (kids ns) p t = some q → Kid (kids ns) P (i + t) q) →
  IsF w0 w base (ptr (bs.getD P 0)) i (Fo.grow (payOf ns bs KV) (kids ns) d p m)
 | d, P, p, i, 0, e, h, hd, hle, hK => by cases d <;> exact trivial
 | 0, P, p, i, m + 1, e, h, hd, hle, hK => by
  have := (E_bounds h).2 (by omega)
  omega
 | d + 1, P, p, i, m + 1, e, h, hd, hle, hK => by
  have hb := (E_bounds h).2 (by omega)
  have hp : p < (kids ns).length := by omega
  have hpn : p < ns.length := by omega
  have h' := h
  rw [E_step hp, E_add] at h'
  cases hq : E (kids ns) (p + 1) ((kids ns).getD p 0) with
  | none => rw [hq] at h'; cases h'
  | some q =>
   rw [hq] at h'
   simp only [Option.bind_some] at h'
   have hq1 := E_bounds hq
   have hq2 := E_bounds h'
   have hmem : ns.getD p z95 ∈ ns := by rw [List.getD_eq_getElem?_getD, List.getElem?_eq_getElem hpn]; exact List.getElem_mem hpn
   obtain ⟨up, pl, ht, hu⟩ := hG.laid.twig p (Nat.zero_le _) hpn
   obtain ⟨rfl, rfl⟩ := hu P i (Nat.zero_le _) (hK 0 p (by omega) (E_zero _ _))
   simp only [Fo.grow, hq, Option.getD_some]
   refine ⟨⟨twigN_of ht hR (hn _ hmem), (hG.fresh p hpn).1, ?_, rowOf hG p d q hpn hq (by omega)⟩, isF_grow hG hR hn hk d p (p + 1) 0 _ q hq (by omega) (by omega) (fun t q2 h1 h2 => ⟨hp, by omega, by rw [Nat.zero_add]; exact h2⟩), isF_grow hG hR hn hk d P q (i + 1) m e h' (by omega) hle (fun t q2 h1 h2 => ?_)⟩
   ·rw [(grow_flat (payOf ns bs KV) (kids ns) d (p + 1) _ q hq (by omega)).1]
    have h0 := hk _ hmem
    have : (kids ns).getD p 0 = (ns.getD p z95).f5.toNat := by
     simp [kids, kid, List.getD_eq_getElem?_getD, hpn]
    rw [this]
    show (ns.getD p z95).f5 = _
    omega
   ·have := hK (t + 1) q2 (by omega) (by rw [E_step hp, E_add, hq]; exact h2)
    rw [show i + 1 + t = i + (t + 1) from by omega]
    exact this
def treeF (ns : List S95) (bs : List Nat) (KV : Nat → Value) : Fo TW := Fo.grow (payOf ns bs KV) (kids ns) ns.length 0 1
theorem tree_flat (he : E (kids ns) 0 1 = some ns.length) : len (treeF ns bs KV) = 1 ∧ flat (treeF ns bs KV) = (List.range ns.length).map (fun j => (payOf ns bs KV j, (kids ns).getD j 0)) := by
 have := grow_flat (payOf ns bs KV) (kids ns) ns.length 0 1 _ he (by omega)
 refine ⟨this.1, ?_⟩
 rw [List.range_eq_range']
 exact this.2
theorem isF_tree (hG : Grown ns R w base bs lv KV) (hR : R w0) (he : E (kids ns) 0 1 = some ns.length) (hn : ∀ n ∈ ns, n.f3.length ≤ 1000000000) (hk : ∀ n ∈ ns, 0 ≤ n.f5) : IsF w0 w base (.pointer none) 0 (treeF ns bs KV) := by
 obtain ⟨hp, hq⟩ := E_one he
 have hpn : 0 < ns.length := by simpa [kids] using hp
 have hmem : ns.getD 0 z95 ∈ ns := by rw [List.getD_eq_getElem?_getD, List.getElem?_eq_getElem hpn]; exact List.getElem_mem hpn
 have hq1 := E_bounds hq
 unfold treeF
 obtain ⟨d, hd⟩ : ∃ d, ns.length = d + 1 := ⟨ns.length - 1, by omega⟩
 have e : Fo.grow (payOf ns bs KV) (kids ns) ns.length 0 1 = .node (payOf ns bs KV 0) (Fo.grow (payOf ns bs KV) (kids ns) d 1 ((kids ns).getD 0 0)) .nil := by
  rw [hd]
  simp only [Fo.grow]
  cases d <;> rfl
 rw [e]
 refine ⟨⟨twigN_of hG.root hR (hn _ hmem), (hG.fresh 0 hpn).1, ?_, rowOf hG 0 d _ hpn hq (by omega)⟩, isF_grow hG hR hn hk d 0 1 0 _ _ hq (by omega) (by omega) (fun t q2 h1 h2 => ⟨hp, by omega, by rw [show (0 : Nat) + t = t from by omega]; exact h2⟩), trivial⟩
 rw [(grow_flat (payOf ns bs KV) (kids ns) d (0 + 1) _ _ hq (by omega)).1]
 have h0 := hk _ hmem
 have : (kids ns).getD 0 0 = (ns.getD 0 z95).f5.toNat := by
  simp [kids, kid, List.getD_eq_getElem?_getD, hpn]
 rw [this]
 show (ns.getD 0 z95).f5 = _
 omega
theorem nodes_tree (he : E (kids ns) 0 1 = some ns.length) : nodesOf (treeF ns bs KV) = ns := by
 unfold nodesOf
 rw [(tree_flat he).2, List.map_map]
 refine List.ext_getElem (by simp) (fun j h1 h2 => ?_)
 simp [payOf, List.getD_eq_getElem?_getD, h2]
theorem blocks_tree (he : E (kids ns) 0 1 = some ns.length) (hl : bs.length = ns.length) : (flat (treeF ns bs KV)).map (·.1.b) = bs := by
 rw [(tree_flat he).2, List.map_map]
 refine List.ext_getElem (by simp [hl]) (fun j h1 h2 => ?_)
 simp [payOf, List.getD_eq_getElem?_getD, h2]
theorem foot_tree (hG : Grown ns R w base bs lv KV) (he : E (kids ns) 0 1 = some ns.length) : (foot (treeF ns bs KV)).Nodup := by
 rw [foot_flat, (tree_flat he).2]
 simp only [footL, List.map_map, List.flatMap_map, Function.comp_def, payOf]
 have hown : ∀ j j', j < ns.length → j' < ns.length → (KV j).ownBlock ≠ some (bs.getD j' 0) := fun j j' h1 h2 e => by
  obtain ⟨kl, hr, _⟩ := hG.laid.row j (Nat.zero_le _) h1
  obtain ⟨up, pl, ht, _⟩ := hG.laid.twig j' (Nat.zero_le _) h2
  exact ht.ne_row hr e.symm
 refine List.pairwise_flatMap.2 ⟨fun j hj => ?_, ?_⟩
 ·have hj' := List.mem_range.1 hj
  cases h : (KV j).ownBlock with
  | none => simp
  | some k =>
   have := hown j j hj' hj'
   rw [h] at this
   simpa using fun e => this (by rw [List.getD_eq_getElem?_getD, e])
 ·refine List.Pairwise.imp_of_mem ?_ List.pairwise_lt_range
  intro j j' hj hj' hlt
  have h1 := List.mem_range.1 hj
  have h2 := List.mem_range.1 hj'
  have ho := hG.order j j' hlt h2
  intro k hk k' hk' e
  subst e
  simp only [List.mem_cons, Option.mem_toList] at hk hk'
  rcases hk with rfl | hk <;> rcases hk' with hk' | hk'
  ·omega
  ·exact hown j' j h2 h1 hk'
  ·exact hown j j' h1 h2 (by rw [← hk']; exact hk)
  ·rcases hG.laid.apart j j' (Nat.zero_le _) h1 (Nat.zero_le _) h2 (by omega) with h | h
   ·rw [h] at hk; cases hk
   ·exact h (by rw [show (KV j).ownBlock = some k from hk, show (KV j').ownBlock = some k from hk'])
end
theorem kid_or {ks : List Nat} : ∀ (d p m e j : Nat), j - p = d → E ks p m = some e → p ≤ j → j < e → (∃ t, t < m ∧ E ks p t = some j) ∨ ∃ P i, p ≤ P ∧ Kid ks P i j := by
 intro d
 induction d with
 | zero =>
  intro p m e j hd h h1 h2
  obtain rfl : j = p := by omega
  refine .inl ⟨0, ?_, E_zero _ _⟩
  rcases Nat.eq_zero_or_pos m with h0 | h0
  ·subst h0; rw [E_zero] at h; injection h with h; omega
  ·exact h0
 | succ d ih =>
  intro p m e j hd h h1 h2
  have hm : 1 ≤ m := by
   rcases Nat.eq_zero_or_pos m with h0 | h0
   ·subst h0; rw [E_zero] at h; injection h with h; omega
   ·exact h0
  have hp : p < ks.length := by have := (E_bounds h).2 hm; omega
  obtain ⟨m', rfl⟩ : ∃ m', m = m' + 1 := ⟨m - 1, by omega⟩
  rw [E_step hp] at h
  rcases ih (p + 1) _ e j (by omega) h (by omega) h2 with ⟨t, h3, h4⟩ | ⟨P, i, h3, h4⟩
  ·rcases Nat.lt_or_ge t (ks.getD p 0) with hlt | hge
   ·exact .inr ⟨p, t, Nat.le_refl _, hp, hlt, h4⟩
   ·refine .inl ⟨t - ks.getD p 0 + 1, by omega, ?_⟩
    rw [E_step hp, show ks.getD p 0 + (t - ks.getD p 0) = t from by omega]
    exact h4
  ·exact .inr ⟨P, i, by omega, h4⟩
def isKid (ks : List Nat) (j P : Nat) : Bool := decide (P < ks.length) && (List.range (ks.getD P 0)).any (fun i => E ks (P + 1) i == some j)
def parOf (ks : List Nat) (j : Nat) : Option Nat := (List.range j).find? (isKid ks j)
theorem isKid_iff {ks : List Nat} {j P : Nat} : isKid ks j P = true ↔ ∃ i, Kid ks P i j := by
 simp only [isKid, Bool.and_eq_true, decide_eq_true_eq, List.any_eq_true, List.mem_range, beq_iff_eq, Kid]
 exact ⟨fun ⟨h1, i, h2, h3⟩ => ⟨i, h1, h2, h3⟩, fun ⟨i, h1, h2, h3⟩ => ⟨h1, i, h2, h3⟩⟩
theorem parOf_some {ks : List Nat} {j P : Nat} (h : parOf ks j = some P) : ∃ i, Kid ks P i j := isKid_iff.1 (List.find?_some h)
theorem parOf_of {ks : List Nat} {j P i : Nat} (h : Kid ks P i j) : parOf ks j = some P := by
 cases hp : parOf ks j with
 | none =>
  have := List.find?_eq_none.1 hp P (List.mem_range.2 h.lt)
  exact absurd (isKid_iff.2 ⟨i, h⟩) this
 | some Q =>
  obtain ⟨i', h'⟩ := parOf_some hp
  rw [(h'.unique h).1]
theorem parOf_root (ks : List Nat) : parOf ks 0 = none := rfl
theorem parOf_in {ks : List Nat} {j : Nat} (he : E ks 0 1 = some ks.length) (h0 : 0 < j) (hj : j < ks.length) : ∃ P i, Kid ks P i j := by
 rcases kid_or j 0 1 _ j (by omega) he (Nat.zero_le _) hj with ⟨t, h1, h2⟩ | ⟨P, i, _, h⟩
 ·obtain rfl : t = 0 := by omega
  rw [E_zero] at h2
  injection h2 with h2
  omega
 ·exact ⟨P, i, h⟩
theorem parOf_lt {ks : List Nat} {j P : Nat} (h : parOf ks j = some P) : P < j := by
 obtain ⟨i, hk⟩ := parOf_some h
 exact hk.lt
theorem twigs_of {ns : List S95} {R : World → Prop} {w : World} {base : Nat} {bs : List Nat} {lv : Value} {KV : Nat → Value} (hG : Grown ns R w base bs lv KV) (hR : R w) (he : E (kids ns) 0 1 = some ns.length) (hn : ∀ n ∈ ns, n.f3.length ≤ 1000000000) : Twigs w ns bs (parOf (kids ns)) := by
 intro j hj
 have hl : (kids ns).length = ns.length := by simp [kids]
 have hnj : ns.getD j z95 = ns[j] := by simp [List.getD_eq_getElem?_getD, hj]
 have key : ∀ up pl, Twig R w (bs.getD j 0) (ns.getD j z95) (KV j) up pl → up = upv bs (parOf (kids ns) j) → ∃ A c kv pl, AttrsAt w A c ns[j].f3 ∧ TwigB w (bs.getD j 0) ns[j] A c kv (upv bs (parOf (kids ns) j)) pl := by
  rintro up pl ⟨A, c, h1, h2, h3⟩ rfl
  rw [hnj] at h1 h2 h3
  exact ⟨A, c, _, _, ⟨hn _ (List.getElem_mem hj), h1, h2 _ hR⟩, h3⟩
 rcases Nat.eq_zero_or_pos j with h0 | h0
 ·subst h0
  exact ⟨key _ _ hG.root (by rw [parOf_root]; rfl), fun q h => by rw [parOf_root] at h; cases h⟩
 ·obtain ⟨P, i, hK⟩ := parOf_in (by rw [hl]; exact he) h0 (by omega)
  obtain ⟨up, pl, ht, hu⟩ := hG.laid.twig j (Nat.zero_le _) hj
  refine ⟨key _ _ ht ?_, fun q h => by have := parOf_lt h; omega⟩
  rw [parOf_of hK, (hu P i (Nat.zero_le _) hK).1]
  rfl
end Go.Proofs.YthjgohbkpjhkeaaGreatDoor.Impl
