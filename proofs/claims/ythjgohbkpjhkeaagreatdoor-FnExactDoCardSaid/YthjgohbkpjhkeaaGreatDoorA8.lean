/- Part 8 of the proof: DoAttr, DoLooks. -/
import Derived.Test.YthjgohbkpjhkeaaGreatDoorA1
import Derived.Test.YthjgohbkpjhkeaaGreatDoorA7
set_option linter.unusedVariables false
set_option linter.unusedSimpArgs false
set_option maxHeartbeats 2000000
set_option maxRecDepth 100000
namespace Go.Proofs.YthjgohbkpjhkeaaGreatDoor.Impl
open Go.RowKit Go.Proofs.YthjgohbkpjhkeaaGreatDoorW.PrintWords Go.Proofs.YthjgohbkpjhkeaaGreatDoorW.PrintLast Go.Proofs.YthjgohbkpjhkeaaGreatDoorW.PrintMore Go.Proofs.YthjgohbkpjhkeaaGreatDoor.PFnExactDo Go.Proofs.YthjgohbkpjhkeaaGreatDoor.MapLib Go.Proofs.YthjgohbkpjhkeaaGreatDoor.FireSpec Go.Proofs.YthjgohbkpjhkeaaGreatDoor.Tr Go.Proofs.YthjgohbkpjhkeaaGreatDoor.Fo
def idxA (nm : ByteArray) : List S149 → Option Nat
 | [] => none
 | x :: r => if x.f0 = nm then some 0 else (idxA nm r).map (· + 1)
def idxI : Option Nat → Int
 | some i => (i : Int)
 | none => -1
theorem same_calls (x : S149) (nm : ByteArray) (qa : Nat) (w : World) (hq : w.cell? ⟨qa, 0, none⟩ = some (.string nm)) : Calls Tryz.prog 173 #[.agg #[.string x.f0, .string x.f1], .pointer (some ⟨qa, 0, none⟩)] w fun e w' => e = .returned (.bool (decide (x.f0 = nm))) ∧ Below w.heap.size w w' := by
 have hud := Tryz.underlying149
 have hl := World.block_lt_of_cell? w _ hq
 go_enter Tryz.func173, Tryz.ntmps173
 go_wp2
 go_ret
 refine ⟨congrArg (fun b => Ending.returned (.bool b)) ?_, (Below.refl _ _).alloc (Nat.le_refl _) _⟩
 rw [Bool.eq_iff_iff, beq_iff_eq, decide_eq_true_iff, bytes_eq]
theorem index_calls (al : List S149) (Ad : Option Addr) (c : Nat) (w : World) (hC : Kd.C k149 w Ad al.length al) (hl : al.length < 2 ^ 40) (nm : ByteArray) (qa : Nat) (hq : w.cell? ⟨qa, 0, none⟩ = some (.string nm)) :
  Calls Tryz.prog 172 #[.slice Ad al.length c, .func (.func 173) #[] #[.pointer (some ⟨qa, 0, none⟩)]] w fun e w' => e = .returned (.int .i64 (idxI (idxA nm al))) ∧ Below w.heap.size w w' := by
 have hud := Tryz.underlying149
 have HC := am hC
 have HL := am hl
 have HQ := am hq
 clear hC hl hq
 go_enter Tryz.func172, Tryz.ntmps172
 go_wp2
 go_loopg [8] (al.length + 1) (fun kq v8 wr => ∃ (j : Nat), v8 = .int .i64 j ∧ Aside0 (j ≤ al.length ∧ al.length < j + kq ∧ idxA nm al = (idxA nm (al.drop j)).map (· + j)) ∧ Aside0 (Below w.heap.size w wr))
 case atStart => exact ⟨0, rfl, ⟨Nat.zero_le _, by omega, by simp⟩, ⟨Below.refl _ _⟩⟩
 case round =>
  obtain ⟨j, rfl, HJ, HB⟩ := hrel
  by_cases hj : j < al.length
  ·obtain ⟨g, rfl⟩ : ∃ g, gk = g + 1 := ⟨gk - 1, by have := HJ.out.2.1; omega⟩
   obtain ⟨ad, rfl, hx0, hx1⟩ := at_T149 (Kd.C_below HC.out HB.out) (j : Int) (by omega) (by omega)
   have hd : decide (j < al.length) = true := decide_eq_true hj
   have hd2 : decide ((j : Int) < (al.length : Int)) = true := decide_eq_true (by omega)
   obtain ⟨big, hbig⟩ : ∃ big : Int, big = 1099511627776 := ⟨_, rfl⟩
   have hjb : (j : Int) < big := by have := HL.out; omega
   have hbig2 : big ≤ 4611686018427387904 := by omega
   clear hbig
   have hrd : rd_T149 al (j : Int) = al[j] := by simp [rd_T149, hj]
   rw [hrd] at hx0 hx1
   simp only [Int.toNat_natCast] at hx0 hx1
   obtain ⟨x, hx⟩ : ∃ x, x = al[j] := ⟨_, rfl⟩
   rw [← hx] at hx0 hx1
   have hst : idxA nm (al.drop j) = (if x.f0 = nm then some 0 else (idxA nm (al.drop (j + 1))).map (· + 1)) := by
    rw [List.drop_eq_getElem_cons hj, hx]
    rfl
   have hij : (j : Int) < (al.length : Int) := by omega
   have HJL := am hj
   clear hx hrd hj
   rcases hb : decide (x.f0 = nm) with _ | _
   ·have HN := am (show idxA nm al = (idxA nm (al.drop (j + 1))).map (· + (j + 1)) by rw [HJ.out.2.2, hst, if_neg (by simpa using hb), Option.map_map]; congr 1; funext i; simp; omega)
    have HSM := am (fun W (hW : W.cell? ⟨qa, 0, none⟩ = some (.string nm)) => (same_calls x nm qa W hW).mono (fun e w' (h : e = _ ∧ Below W.heap.size W w') => (⟨by rw [h.1, hb], h.2⟩ : e = .returned (.bool false) ∧ Below W.heap.size W w')))
    clear hst hb
    go_wp2_with (first | (go_at_call 173; refine (HSM.out _ (by rw [HB.out.cell (p := ⟨qa, 0, none⟩) (World.block_lt_of_cell? w _ HQ.out)]; exact HQ.out)).mono ?_; rintro e w8 ⟨rfl, hb8⟩; have HB8 := am (below_step HB.out hb8); clear hb8))
    go_roundg g
    case measure => omega
    case rel => exact ⟨j + 1, by first | rfl | go_num, ⟨HJL.out, by have := HJ.out.2.1; omega, HN.out⟩, HB8⟩
   ·have HN := am (show idxI (idxA nm al) = (j : Int) by rw [HJ.out.2.2, hst, if_pos (by simpa using hb)]; simp [idxI])
    have HSM := am (fun W (hW : W.cell? ⟨qa, 0, none⟩ = some (.string nm)) => (same_calls x nm qa W hW).mono (fun e w' (h : e = _ ∧ Below W.heap.size W w') => (⟨by rw [h.1, hb], h.2⟩ : e = .returned (.bool true) ∧ Below W.heap.size W w')))
    clear hst hb
    go_wp2_with (first | (go_at_call 173; refine (HSM.out _ (by rw [HB.out.cell (p := ⟨qa, 0, none⟩) (World.block_lt_of_cell? w _ HQ.out)]; exact HQ.out)).mono ?_; rintro e w8 ⟨rfl, hb8⟩; have HB8 := am (below_step HB.out hb8); clear hb8))
    go_ret
    rw [HN.out]
    exact ⟨rfl, HB8.out⟩
  ·have hd : decide (j < al.length) = false := decide_eq_false hj
   have hd2 : decide ((j : Int) < (al.length : Int)) = false := decide_eq_false (by omega)
   have HN := am (show idxI (idxA nm al) = -1 by rw [HJ.out.2.2, List.drop_eq_nil_of_le (by omega)]; rfl)
   clear hj
   go_wp2
   go_ret
   rw [HN.out]
   exact ⟨rfl, HB.out⟩
theorem attrAt_calls (al : List S149) (Ad : Option Addr) (c : Nat) (w : World) (hC : Kd.C k149 w Ad al.length al) (hl : al.length < 2 ^ 40) (nm : ByteArray) :
  Calls Tryz.prog 169 #[.slice Ad al.length c, .string nm] w fun e w' => e = .returned (.int .i64 (idxI (idxA nm al))) ∧ Below w.heap.size w w' := by
 have hb := (Below.refl w.heap.size w).alloc (Nat.le_refl _) (.cells #[.string nm] 9)
 have HX := am (index_calls al Ad c _ (Kd.C_below hC hb) hl nm w.heap.size (cell_newest _ _ _ _ _))
 have HB := am hb
 clear hC hl hb
 go_enter Tryz.func169, Tryz.ntmps169
 go_wp2_with (first | (go_at_call 172; refine HX.out.mono ?_; rintro e w8 ⟨rfl, hb8⟩; have HB8 := am hb8; clear hb8))
 go_ret
 exact ⟨rfl, below_step HB.out HB8.out⟩
end Go.Proofs.YthjgohbkpjhkeaaGreatDoor.Impl
set_option maxHeartbeats 4000000
set_option maxRecDepth 100000
namespace Go.Proofs.YthjgohbkpjhkeaaGreatDoor.Impl
open Go.RowKit Go.Proofs.YthjgohbkpjhkeaaGreatDoorW.PrintWords Go.Proofs.YthjgohbkpjhkeaaGreatDoorW.PrintLast Go.Proofs.YthjgohbkpjhkeaaGreatDoorW.PrintMore Go.Proofs.YthjgohbkpjhkeaaGreatDoor.PFnExactDo Go.Proofs.YthjgohbkpjhkeaaGreatDoor.MapLib Go.Proofs.YthjgohbkpjhkeaaGreatDoor.FireSpec Go.Proofs.YthjgohbkpjhkeaaGreatDoor.Tr Go.Proofs.YthjgohbkpjhkeaaGreatDoor.Fo
theorem eq_others {a b : Nat} {w : World} {ca cb : Array Value} {ta tb : TypeId} (hne : a ≠ b) (ha : w.heap[a]? = some (.cells ca ta (0, 0))) (hb : w.heap[b]? = some (.cells cb tb (0, 0))) : ∀ m, (binOp .eql 97 (.pointer (some ⟨a, 0, none⟩)) (.pointer (some ⟨b, 0, none⟩))).run Tryz.prog (w.drewN m) = .ok (.bool false) (w.drewN m) := fun m =>
 eq_other (w := w.drewN m) hne (show (w.drewN m).heap[a]? = _ from (ha : w.heap[a]? = _)) (show (w.drewN m).heap[b]? = _ from (hb : w.heap[b]? = _))
def noCode (ns : List S95) (C : Chg) : Option Int := if (place ns C.f1).isSome then some 3 else some 2
theorem no_look (w : World) (g : Nat) (ns : List S95) (bs : List Nat) (C : Chg) (A : Option Addr) (c : Nat) (hg : GMap w g ns bs) (hl : bs.length = ns.length) (hd : (ns.map (·.f0)).Nodup) :
  Calls Tryz.prog 184 #[chv C A c, .pointer (some ⟨g, 0, none⟩)] w (LookEnd w (noCode ns C)) := by
 have hb := (Below.refl w.heap.size w).alloc (Nat.le_refl _) (.cells #[.int .i64 C.f0, .int .i64 C.f1, .int .i64 C.f2, .int .i64 C.f3, .string C.f4, .string C.f5, .int .i64 C.f6, .slice A C.f7.length c] 165)
 have HB := am hb
 have HT := am (target_calls _ g ns bs C A c (hg.below hb) hl hd)
 clear hg hl hd hb
 cases hp : (place ns C.f1).isSome with
 | false =>
  rw [hp] at HT
  have HE := am (show noCode ns C = some 2 by unfold noCode; rw [hp]; rfl)
  clear hp
  rw [if_neg (by simp)] at HT
  go_enter Tryz.func184, Tryz.ntmps184
  go_wp2_with (first | (go_at_call 163; refine HT.out.mono ?_; rintro e w1 ⟨hb1, r, rfl, hr, hc1⟩; have HB1 := am (And.intro hb1 hr); clear hb1 hr))
  go_ret
  rw [HE.out]
  exact LookEnd.next HB.out ⟨HB1.out.1, r, rfl, HB1.out.2, hc1⟩
 | true =>
  rw [hp] at HT
  have HE := am (show noCode ns C = some 3 by unfold noCode; rw [hp]; rfl)
  clear hp
  rw [if_pos rfl] at HT
  go_enter Tryz.func184, Tryz.ntmps184
  go_wp2_with (first | (go_at_call 163; refine HT.out.mono ?_; rintro e w1 ⟨hb1, rfl⟩; have HB1 := am (below_step HB.out hb1); clear hb1) | (go_at_call 75; refine (deny_calls 3 _).mono ?_; rintro e w' ⟨rfl, rfl⟩))
  go_ret
  rw [HE.out]
  exact look_some 3 HB1.out rfl
def attrCode (ns : List S95) (C : Chg) : Option Int := match elementCode ns C with
 | some k => some k
 | none => if C.f4 = ⟨#[]⟩ then some 3 else none
theorem attr_look (w : World) (g : Nat) (ns : List S95) (bs : List Nat) (C : Chg) (A : Option Addr) (c : Nat) (hg : GMap w g ns bs) (hl : bs.length = ns.length) (hd : (ns.map (·.f0)).Nodup) (pr : Nat → Option Nat) (ht : Twigs w ns bs pr) :
  Calls Tryz.prog 168 #[chv C A c, .pointer (some ⟨g, 0, none⟩)] w (LookEnd w (attrCode ns C)) := by
 have hb := (Below.refl w.heap.size w).alloc (Nat.le_refl _) (.cells #[.int .i64 C.f0, .int .i64 C.f1, .int .i64 C.f2, .int .i64 C.f3, .string C.f4, .string C.f5, .int .i64 C.f6, .slice A C.f7.length c] 162)
 have HB := am hb
 have HT := am (element_calls _ g ns bs C A c (hg.below hb) hl hd pr (ht.below hb))
 clear hg hl hd hb ht
 cases hp : elementCode ns C with
 | some k =>
  rw [hp] at HT
  have HE := am (show attrCode ns C = some k by unfold attrCode; rw [hp])
  clear hp
  go_enter Tryz.func168, Tryz.ntmps168
  go_wp2_with (first | (go_at_call 171; refine HT.out.mono ?_; rintro e w1 ⟨hb1, r, rfl, hr, hc1⟩; have HB1 := am (And.intro hb1 hr); clear hb1 hr))
  go_ret
  rw [HE.out]
  exact LookEnd.next HB.out ⟨HB1.out.1, r, rfl, HB1.out.2, hc1⟩
 | none =>
  rw [hp] at HT
  have HE := am (show attrCode ns C = if C.f4 = ⟨#[]⟩ then some 3 else none by unfold attrCode; rw [hp])
  clear hp
  cases hs : (C.f4.toList == []) with
  | true =>
   have HE2 := am (show attrCode ns C = some 3 by rw [HE.out, if_pos (bytes_nil.1 (by simpa using hs))])
   go_enter Tryz.func168, Tryz.ntmps168
   go_wp2_with (first | (go_at_call 171; refine HT.out.mono ?_; rintro e w1 ⟨hb1, rfl⟩; have HB1 := am (below_step HB.out hb1); have hx4 : w1.cell? ⟨w.heap.size, 4, none⟩ = some (.string C.f4) := blk_cell (blk_below (blk_newest w (.cells #[.int .i64 C.f0, .int .i64 C.f1, .int .i64 C.f2, .int .i64 C.f3, .string C.f4, .string C.f5, .int .i64 C.f6, .slice A C.f7.length c] 162)) hb1) 4; clear hb1) | (go_at_call 75; refine (deny_calls 3 _).mono ?_; rintro e w' ⟨rfl, rfl⟩))
   go_ret
   rw [HE2.out]
   exact look_some 3 HB1.out rfl
  | false =>
   have HE2 := am (show attrCode ns C = none by rw [HE.out, if_neg (fun e => by rw [bytes_nil.2 e] at hs; exact absurd hs (by simp))])
   go_enter Tryz.func168, Tryz.ntmps168
   go_wp2_with (first | (go_at_call 171; refine HT.out.mono ?_; rintro e w1 ⟨hb1, rfl⟩; have HB1 := am (below_step HB.out hb1); have hx4 : w1.cell? ⟨w.heap.size, 4, none⟩ = some (.string C.f4) := blk_cell (blk_below (blk_newest w (.cells #[.int .i64 C.f0, .int .i64 C.f1, .int .i64 C.f2, .int .i64 C.f3, .string C.f4, .string C.f5, .int .i64 C.f6, .slice A C.f7.length c] 162)) hb1) 4; clear hb1))
   go_ret
   rw [HE2.out]
   exact ⟨HB1.out, rfl⟩
def textCode (ns : List S95) (C : Chg) : Option Int :=
 match place ns C.f1 with
 | none => some 2
 | some j => if kindAt ns j = 3 then none else some 3
theorem text_look (w : World) (g : Nat) (ns : List S95) (bs : List Nat) (C : Chg) (A : Option Addr) (c : Nat) (hg : GMap w g ns bs) (hl : bs.length = ns.length) (hd : (ns.map (·.f0)).Nodup) (pr : Nat → Option Nat) (ht : Twigs w ns bs pr) :
  Calls Tryz.prog 182 #[chv C A c, .pointer (some ⟨g, 0, none⟩)] w (LookEnd w (textCode ns C)) := by
 have hb := (Below.refl w.heap.size w).alloc (Nat.le_refl _) (.cells #[.int .i64 C.f0, .int .i64 C.f1, .int .i64 C.f2, .int .i64 C.f3, .string C.f4, .string C.f5, .int .i64 C.f6, .slice A C.f7.length c] 164)
 have HB := am hb
 have HT := am (target_calls _ g ns bs C A c (hg.below hb) hl hd)
 clear hb
 cases hp : place ns C.f1 with
 | none =>
  rw [hp, if_neg (by simp)] at HT
  have HE := am (show textCode ns C = some 2 by unfold textCode; rw [hp])
  clear hp hg hl hd ht
  go_enter Tryz.func182, Tryz.ntmps182
  go_wp2_with (first | (go_at_call 163; refine HT.out.mono ?_; rintro e w1 ⟨hb1, r, rfl, hr, hc1⟩; have HB1 := am (And.intro hb1 hr); clear hb1 hr))
  go_ret
  rw [HE.out]
  exact LookEnd.next HB.out ⟨HB1.out.1, r, rfl, HB1.out.2, hc1⟩
 | some j =>
  rw [hp, if_pos (by simp)] at HT
  obtain ⟨hj, _⟩ := place_some hp
  have HG := am hg
  have HL := am (And.intro hl hd)
  obtain ⟨⟨A1, c1, kv1, pl1, ha1, h1⟩, _⟩ := ht j hj
  have HTW := am h1
  have HLK := am (show lkv ns bs C.f1 = .pointer (some ⟨bs.getD j 0, 0, none⟩) by unfold lkv; rw [hp]; rfl)
  have HE := am (show textCode ns C = if ns[j].f1 = 3 then none else some 3 by unfold textCode; rw [hp]; simp only; rw [kindAt_of hj])
  obtain ⟨n, hn⟩ : ∃ n, n = ns[j] := ⟨_, rfl⟩
  rw [← hn] at HTW HE
  obtain ⟨bj, hbj⟩ : ∃ bj, bj = bs.getD j 0 := ⟨_, rfl⟩
  rw [← hbj] at HTW HLK
  clear ht hp h1 ha1 hn hbj hj hg hl hd
  by_cases hk : n.f1 = 3
  ·rw [if_pos hk] at HE
   have hk2 : (n.f1 != 3) = false := by rw [hk]; rfl
   clear hk
   go_enter Tryz.func182, Tryz.ntmps182
   go_wp2_with (first | (go_at_call 163; refine HT.out.mono ?_; rintro e w1 ⟨hb1, rfl⟩; have HB1 := am (below_step HB.out hb1); have hx1 : w1.cell? ⟨w.heap.size, 1, none⟩ = some (.int .i64 C.f1) := blk_cell (blk_below (blk_newest w (.cells #[.int .i64 C.f0, .int .i64 C.f1, .int .i64 C.f2, .int .i64 C.f3, .string C.f4, .string C.f5, .int .i64 C.f6, .slice A C.f7.length c] 164)) hb1) 1; obtain ⟨mb, _, hm, hq⟩ := (HG.out.below HB1.out).look HL.out HLK.out; have ht1 : w1.cell? ⟨bj, 1, none⟩ = some (.int .i64 n.f1) := blk_cell (blk_below HTW.out HB1.out) 1; clear hb1))
   go_quiet (fail)
   go_wp2
   go_ret
   rw [HE.out]
   exact ⟨by repeat (first | exact HB1.out | apply pw_below_drewN | apply below_drew1), rfl⟩
  ·rw [if_neg hk] at HE
   have hk2 : (n.f1 != 3) = true := by simpa using hk
   clear hk
   go_enter Tryz.func182, Tryz.ntmps182
   go_wp2_with (first | (go_at_call 163; refine HT.out.mono ?_; rintro e w1 ⟨hb1, rfl⟩; have HB1 := am (below_step HB.out hb1); have hx1 : w1.cell? ⟨w.heap.size, 1, none⟩ = some (.int .i64 C.f1) := blk_cell (blk_below (blk_newest w (.cells #[.int .i64 C.f0, .int .i64 C.f1, .int .i64 C.f2, .int .i64 C.f3, .string C.f4, .string C.f5, .int .i64 C.f6, .slice A C.f7.length c] 164)) hb1) 1; obtain ⟨mb, _, hm, hq⟩ := (HG.out.below HB1.out).look HL.out HLK.out; have ht1 : w1.cell? ⟨bj, 1, none⟩ = some (.int .i64 n.f1) := blk_cell (blk_below HTW.out HB1.out) 1; clear hb1))
   go_quiet (fail)
   go_wp2_with (first | (go_at_call 75; refine (deny_calls 3 _).mono ?_; rintro e w' ⟨rfl, rfl⟩))
   go_ret
   rw [HE.out]
   refine look_some 3 ?_ rfl
   repeat (first | exact HB1.out | apply pw_below_drewN | apply below_drew1)
def removeCode (ns : List S95) (C : Chg) : Option Int :=
 match place ns C.f1 with
 | none => some 2
 | some j => if j = 0 then some 3 else none
theorem remove_look (w : World) (g : Nat) (ns : List S95) (bs : List Nat) (C : Chg) (A : Option Addr) (c : Nat) (hg : GMap w g ns bs) (hl : bs.length = ns.length) (hd : (ns.map (·.f0)).Nodup) (pr : Nat → Option Nat) (ht : Twigs w ns bs pr) (hnd : bs.Nodup) :
  Calls Tryz.prog 160 #[chv C A c, .pointer (some ⟨g, 0, none⟩)] w (LookEnd w (removeCode ns C)) := by
 have hb := (Below.refl w.heap.size w).alloc (Nat.le_refl _) (.cells #[.int .i64 C.f0, .int .i64 C.f1, .int .i64 C.f2, .int .i64 C.f3, .string C.f4, .string C.f5, .int .i64 C.f6, .slice A C.f7.length c] 160)
 have HB := am hb
 have HT := am (target_calls _ g ns bs C A c (hg.below hb) hl hd)
 clear hb
 cases hp : place ns C.f1 with
 | none =>
  rw [hp, if_neg (by simp)] at HT
  have HE := am (show removeCode ns C = some 2 by unfold removeCode; rw [hp])
  clear hp hg hl hd ht
  go_enter Tryz.func160, Tryz.ntmps160
  go_wp2_with (first | (go_at_call 163; refine HT.out.mono ?_; rintro e w1 ⟨hb1, r, rfl, hr, hc1⟩; have HB1 := am (And.intro hb1 hr); clear hb1 hr))
  go_ret
  rw [HE.out]
  exact LookEnd.next HB.out ⟨HB1.out.1, r, rfl, HB1.out.2, hc1⟩
 | some j =>
  rw [hp, if_pos (by simp)] at HT
  obtain ⟨hj, _⟩ := place_some hp
  have HG := am hg
  have HL := am (And.intro hl hd)
  obtain ⟨⟨A1, c1, kv1, pl1, ha1, h1⟩, _⟩ := ht j hj
  have HTW := am h1
  have HLK := am (show lkv ns bs C.f1 = .pointer (some ⟨bs.getD j 0, 0, none⟩) by unfold lkv; rw [hp]; rfl)
  have HE := am (show removeCode ns C = if j = 0 then some 3 else none by unfold removeCode; rw [hp])
  obtain ⟨⟨A2, c2, kv2, pl2, _, h2⟩, _⟩ := ht 0 (by omega)
  have HT0 := am h2
  obtain ⟨b0, hb0⟩ : ∃ b0, b0 = bs.getD 0 0 := ⟨_, rfl⟩
  by_cases hk : j = 0
  ·subst hk
   rw [if_pos rfl] at HE
   rw [← hb0] at HLK HT0
   clear ht hp h1 h2 hg hd
   go_enter Tryz.func160, Tryz.ntmps160
   go_wp2_with (first | (go_at_call 163; refine HT.out.mono ?_; rintro e w1 ⟨hb1, rfl⟩; have HB1 := am (below_step HB.out hb1); have hx1 : w1.cell? ⟨w.heap.size, 1, none⟩ = some (.int .i64 C.f1) := blk_cell (blk_below (blk_newest w (.cells #[.int .i64 C.f0, .int .i64 C.f1, .int .i64 C.f2, .int .i64 C.f3, .string C.f4, .string C.f5, .int .i64 C.f6, .slice A C.f7.length c] 160)) hb1) 1; obtain ⟨mb, hm0, hm, hq⟩ := (HG.out.below HB1.out).look HL.out HLK.out; rw [← hb0] at hm0; unfold ptr at hm0; have hE := fun m => eq_same b0 (w1.drewN m); clear hb1))
   clear hb0
   go_quiet (fail)
   go_wp2_with (first | (go_at_call 75; refine (deny_calls 3 _).mono ?_; rintro e w' ⟨rfl, rfl⟩))
   go_ret
   rw [HE.out]
   refine look_some 3 ?_ rfl
   repeat (first | exact HB1.out | apply pw_below_drewN | apply below_drew1)
  ·rw [if_neg hk] at HE
   obtain ⟨bj, hbj⟩ : ∃ bj, bj = bs.getD j 0 := ⟨_, rfl⟩
   have hne : bj ≠ b0 := fun e => by
    rw [hbj, hb0, List.getD_eq_getElem?_getD, List.getD_eq_getElem?_getD, List.getElem?_eq_getElem (by omega), List.getElem?_eq_getElem (by omega)] at e
    exact hk ((List.getElem_inj hnd).1 (by simpa using e))
   rw [← hbj] at HLK HTW
   rw [← hb0] at HT0
   have HNE := am hne
   clear ht hp h1 h2 hg hd hbj hk hne hnd
   go_enter Tryz.func160, Tryz.ntmps160
   go_wp2_with (first | (go_at_call 163; refine HT.out.mono ?_; rintro e w1 ⟨hb1, rfl⟩; have HB1 := am (below_step HB.out hb1); have hx1 : w1.cell? ⟨w.heap.size, 1, none⟩ = some (.int .i64 C.f1) := blk_cell (blk_below (blk_newest w (.cells #[.int .i64 C.f0, .int .i64 C.f1, .int .i64 C.f2, .int .i64 C.f3, .string C.f4, .string C.f5, .int .i64 C.f6, .slice A C.f7.length c] 160)) hb1) 1; obtain ⟨mb, hm0, hm, hq⟩ := (HG.out.below HB1.out).look HL.out HLK.out; rw [← hb0] at hm0; unfold ptr at hm0; have hE := eq_others HNE.out (blk_below HTW.out HB1.out) (blk_below HT0.out HB1.out); clear hb1))
   clear hb0
   go_quiet (fail)
   go_wp2
   go_ret
   rw [HE.out]
   exact ⟨by repeat (first | exact HB1.out | apply pw_below_drewN | apply below_drew1), rfl⟩
def attrsOf (ns : List S95) (j : Nat) : List S149 := ((ns[j]?).map (·.f3)).getD []
def dropCode (ns : List S95) (C : Chg) : Option Int :=
 match elementCode ns C with
 | some k => some k
 | none => match place ns C.f1 with
  | none => some 3
  | some j => if idxA C.f4 (attrsOf ns j) = none then some 3 else none
theorem drop_look (w : World) (g : Nat) (ns : List S95) (bs : List Nat) (C : Chg) (A : Option Addr) (c : Nat) (hg : GMap w g ns bs) (hl : bs.length = ns.length) (hd : (ns.map (·.f0)).Nodup) (pr : Nat → Option Nat) (ht : Twigs w ns bs pr) :
  Calls Tryz.prog 179 #[chv C A c, .pointer (some ⟨g, 0, none⟩)] w (LookEnd w (dropCode ns C)) := by
 have hb := (Below.refl w.heap.size w).alloc (Nat.le_refl _) (.cells #[.int .i64 C.f0, .int .i64 C.f1, .int .i64 C.f2, .int .i64 C.f3, .string C.f4, .string C.f5, .int .i64 C.f6, .slice A C.f7.length c] 163)
 have HB := am hb
 have HT := am (element_calls _ g ns bs C A c (hg.below hb) hl hd pr (ht.below hb))
 clear hb
 cases he : elementCode ns C with
 | some k =>
  rw [he] at HT
  have HE := am (show dropCode ns C = some k by unfold dropCode; rw [he])
  clear he hg hl hd ht
  go_enter Tryz.func179, Tryz.ntmps179
  go_wp2_with (first | (go_at_call 171; refine HT.out.mono ?_; rintro e w1 ⟨hb1, r, rfl, hr, hc1⟩; have HB1 := am (And.intro hb1 hr); clear hb1 hr))
  go_ret
  rw [HE.out]
  exact LookEnd.next HB.out ⟨HB1.out.1, r, rfl, HB1.out.2, hc1⟩
 | none =>
  rw [he] at HT
  obtain ⟨j, hp⟩ : ∃ j, place ns C.f1 = some j := by
   unfold elementCode at he
   cases hp : place ns C.f1 with
   | none => rw [hp] at he; cases he
   | some j => exact ⟨j, rfl⟩
  obtain ⟨hj, _⟩ := place_some hp
  have HG := am hg
  have HL := am (And.intro hl hd)
  obtain ⟨⟨A1, c1, kv1, pl1, ha1, h1⟩, _⟩ := ht j hj
  have HTW := am h1
  have HLK := am (show lkv ns bs C.f1 = .pointer (some ⟨bs.getD j 0, 0, none⟩) by unfold lkv; rw [hp]; rfl)
  have hE : dropCode ns C = if idxA C.f4 ns[j].f3 = none then some 3 else none := by
   unfold dropCode attrsOf
   rw [he, hp]
   simp [hj]
  have HE := am hE
  obtain ⟨n, hn⟩ : ∃ n, n = ns[j] := ⟨_, rfl⟩
  rw [← hn] at HTW HE ha1
  obtain ⟨bj, hbj⟩ : ∃ bj, bj = bs.getD j 0 := ⟨_, rfl⟩
  rw [← hbj] at HTW HLK
  have HA := am ha1
  clear ht hp h1 hn hbj hj hg hl hd he hE ha1
  cases hi : idxA C.f4 n.f3 with
  | none =>
   have HE2 := am (show dropCode ns C = some 3 by rw [HE.out, if_pos hi])
   have HAT := am (fun W (hb : Below w.heap.size w W) => (attrAt_calls n.f3 A1 c1 W (HA.out.below hb).2.2 (by have := HA.out.1; omega) C.f4).mono (fun e w' h => (⟨by rw [h.1, hi]; rfl, h.2⟩ : e = .returned (.int .i64 (-1)) ∧ Below W.heap.size W w')))
   clear HE hi
   go_enter Tryz.func179, Tryz.ntmps179
   go_wp2_with (first | (go_at_call 171; refine HT.out.mono ?_; rintro e w1 ⟨hb1, rfl⟩; have HB1 := am (below_step HB.out hb1); have hx1 : w1.cell? ⟨w.heap.size, 1, none⟩ = some (.int .i64 C.f1) := blk_cell (blk_below (blk_newest w (.cells #[.int .i64 C.f0, .int .i64 C.f1, .int .i64 C.f2, .int .i64 C.f3, .string C.f4, .string C.f5, .int .i64 C.f6, .slice A C.f7.length c] 163)) hb1) 1; obtain ⟨mb, _, hm, hq⟩ := (HG.out.below HB1.out).lookD HL.out HLK.out; obtain ⟨⟨_, _, _, ht3, _⟩, _⟩ := twig_cells (blk_below HTW.out HB1.out); have hx4 : w1.cell? ⟨w.heap.size, 4, none⟩ = some (.string C.f4) := blk_cell (blk_below (blk_newest w (.cells #[.int .i64 C.f0, .int .i64 C.f1, .int .i64 C.f2, .int .i64 C.f3, .string C.f4, .string C.f5, .int .i64 C.f6, .slice A C.f7.length c] 163)) hb1) 4; clear hb1))
   go_still_tail 15, (by kernel_rfl)
   change wpList _ _ _ _ _ w1.drew
   have HB2 := am (below_step HB1.out (Below.refl w1.heap.size w1).drew)
   go_wp2_with (first | (go_at_call 169; refine (HAT.out _ HB2.out).mono ?_; rintro e w3 ⟨rfl, hb3⟩; have HB3 := am (below_step HB2.out hb3); clear hb3) | (go_at_call 75; refine (deny_calls 3 _).mono ?_; rintro e w' ⟨rfl, rfl⟩))
   go_ret
   rw [HE2.out]
   exact look_some 3 HB3.out rfl
  | some i =>
   have HE2 := am (show dropCode ns C = none by rw [HE.out, if_neg (by rw [hi]; simp)])
   have HAT := am (fun W (hb : Below w.heap.size w W) => (attrAt_calls n.f3 A1 c1 W (HA.out.below hb).2.2 (by have := HA.out.1; omega) C.f4).mono (fun e w' h => (⟨by rw [h.1, hi]; rfl, h.2⟩ : e = .returned (.int .i64 (i : Int)) ∧ Below W.heap.size W w')))
   have hdi : decide ((i : Int) < 0) = false := decide_eq_false (by omega)
   clear HE hi
   go_enter Tryz.func179, Tryz.ntmps179
   go_wp2_with (first | (go_at_call 171; refine HT.out.mono ?_; rintro e w1 ⟨hb1, rfl⟩; have HB1 := am (below_step HB.out hb1); have hx1 : w1.cell? ⟨w.heap.size, 1, none⟩ = some (.int .i64 C.f1) := blk_cell (blk_below (blk_newest w (.cells #[.int .i64 C.f0, .int .i64 C.f1, .int .i64 C.f2, .int .i64 C.f3, .string C.f4, .string C.f5, .int .i64 C.f6, .slice A C.f7.length c] 163)) hb1) 1; obtain ⟨mb, _, hm, hq⟩ := (HG.out.below HB1.out).lookD HL.out HLK.out; obtain ⟨⟨_, _, _, ht3, _⟩, _⟩ := twig_cells (blk_below HTW.out HB1.out); have hx4 : w1.cell? ⟨w.heap.size, 4, none⟩ = some (.string C.f4) := blk_cell (blk_below (blk_newest w (.cells #[.int .i64 C.f0, .int .i64 C.f1, .int .i64 C.f2, .int .i64 C.f3, .string C.f4, .string C.f5, .int .i64 C.f6, .slice A C.f7.length c] 163)) hb1) 4; clear hb1))
   go_still_tail 15, (by kernel_rfl)
   change wpList _ _ _ _ _ w1.drew
   have HB2 := am (below_step HB1.out (Below.refl w1.heap.size w1).drew)
   go_wp2_with (first | (go_at_call 169; refine (HAT.out _ HB2.out).mono ?_; rintro e w3 ⟨rfl, hb3⟩; have HB3 := am (below_step HB2.out hb3); clear hb3))
   go_ret
   rw [HE2.out]
   exact ⟨HB3.out, rfl⟩
def insertCode (ns : List S95) (pr : Nat → Option Nat) (C : Chg) : Option Int :=
 match goalCode ns pr C with
 | some k => some k
 | none => match place ns C.f2 with
  | none => some 2
  | some j => if !(kindAt ns j == 2 || kindAt ns j == 1) || !wholeF C.f7 then some 3 else none
theorem goal_calls (w : World) (g : Nat) (ns : List S95) (bs : List Nat) (C : Chg) (A : Option Addr) (c : Nat) (hg : GMap w g ns bs) (hl : bs.length = ns.length) (hd : (ns.map (·.f0)).Nodup) (pr : Nat → Option Nat) (ht : Twigs w ns bs pr) (hnd : bs.Nodup) :
  Calls Tryz.prog 151 #[.pointer (some ⟨g, 0, none⟩), chv C A c] w (LookEnd w (goalCode ns pr C)) := by
 cases hp : place ns C.f2 with
 | none =>
  have h := goal_noParent w g ns bs C A c hg hl hd hp
  have e : goalCode ns pr C = some 2 := by unfold goalCode; rw [hp]
  rw [e]
  exact h
 | some p => exact goal_parent w g ns bs C A c hg hl hd p hp pr (fun j hj => by
   obtain ⟨⟨A, c, kv, pl, _, h1⟩, h2⟩ := ht j hj
   exact ⟨⟨_, A, c, kv, pl, h1⟩, h2⟩) hnd
theorem insert_look (w : World) (g : Nat) (ns : List S95) (bs : List Nat) (C : Chg) (A : Option Addr) (c : Nat) (hg : GMap w g ns bs) (hl : bs.length = ns.length) (hd : (ns.map (·.f0)).Nodup) (pr : Nat → Option Nat) (ht : Twigs w ns bs pr) (hnd : bs.Nodup) (hC : Kd.C k95 w A C.f7.length C.f7) (hn : C.f7.length ≤ 1000000000) (hwf : ∀ n ∈ C.f7, n.f5 ≤ 9223372036854775807 ∧ -9223372036854775808 ≤ n.f5) :
  Calls Tryz.prog 148 #[chv C A c, .pointer (some ⟨g, 0, none⟩)] w (LookEnd w (insertCode ns pr C)) := by
 have hb := (Below.refl w.heap.size w).alloc (Nat.le_refl _) (.cells #[.int .i64 C.f0, .int .i64 C.f1, .int .i64 C.f2, .int .i64 C.f3, .string C.f4, .string C.f5, .int .i64 C.f6, .slice A C.f7.length c] 159)
 have HB := am hb
 have HT := am (goal_calls _ g ns bs C A c (hg.below hb) hl hd pr (ht.below hb) hnd)
 have HW := am (And.intro hC (And.intro hn hwf))
 clear hb hC hn hwf
 cases he : goalCode ns pr C with
 | some k =>
  rw [he] at HT
  have HE := am (show insertCode ns pr C = some k by unfold insertCode; rw [he])
  clear he hg hl hd ht
  go_enter Tryz.func148, Tryz.ntmps148
  go_wp2_with (first | (go_at_call 151; refine HT.out.mono ?_; rintro e w1 ⟨hb1, r, rfl, hr, hc1⟩; have HB1 := am (And.intro hb1 hr); clear hb1 hr))
  go_ret
  rw [HE.out]
  exact LookEnd.next HB.out ⟨HB1.out.1, r, rfl, HB1.out.2, hc1⟩
 | none =>
  rw [he] at HT
  obtain ⟨j, hp⟩ : ∃ j, place ns C.f2 = some j := by
   unfold goalCode at he
   cases hp : place ns C.f2 with
   | none => rw [hp] at he; cases he
   | some j => exact ⟨j, rfl⟩
  obtain ⟨hj, _⟩ := place_some hp
  have HG := am hg
  have HL := am (And.intro hl hd)
  obtain ⟨⟨A1, c1, kv1, pl1, ha1, h1⟩, _⟩ := ht j hj
  have HTW := am h1
  have HLK := am (show lkv ns bs C.f2 = .pointer (some ⟨bs.getD j 0, 0, none⟩) by unfold lkv; rw [hp]; rfl)
  have hE : insertCode ns pr C = if !holdsF ns[j] || !wholeF C.f7 then some 3 else none := by
   unfold insertCode holdsF
   rw [he, hp]
   simp only
   rw [kindAt_of hj]
  have HE := am hE
  obtain ⟨n, hn⟩ : ∃ n, n = ns[j] := ⟨_, rfl⟩
  rw [← hn] at HTW HE
  obtain ⟨bj, hbj⟩ : ∃ bj, bj = bs.getD j 0 := ⟨_, rfl⟩
  rw [← hbj] at HTW HLK
  clear ht hp h1 ha1 hn hbj hj hg hl hd he hE
  cases hh : holdsF n with
  | false =>
   have HE2 := am (show insertCode ns pr C = some 3 by rw [HE.out, hh]; rfl)
   have HH := am (fun W (hb : Below w.heap.size w W) (m : Nat) => hh ▸ holds_calls (W.drewN m) bj n A1 c1 kv1 _ pl1 (show (W.drewN m).heap[bj]? = _ from (blk_below HTW.out hb : W.heap[bj]? = _)))
   clear HE hh
   go_enter Tryz.func148, Tryz.ntmps148
   go_wp2_with (first | (go_at_call 151; refine HT.out.mono ?_; rintro e w1 ⟨hb1, rfl⟩; have HB1 := am (below_step HB.out hb1); have hx1 : w1.cell? ⟨w.heap.size, 2, none⟩ = some (.int .i64 C.f2) := blk_cell (blk_below (blk_newest w (.cells #[.int .i64 C.f0, .int .i64 C.f1, .int .i64 C.f2, .int .i64 C.f3, .string C.f4, .string C.f5, .int .i64 C.f6, .slice A C.f7.length c] 159)) hb1) 2; obtain ⟨mb, _, hm, hq⟩ := (HG.out.below HB1.out).look HL.out HLK.out; clear hb1))
   go_quiet (first | (go_at_call 152; refine (HH.out _ HB1.out _).mono ?_; rintro e w' ⟨rfl, rfl⟩; first | exact ⟨rfl, _, rfl⟩ | (trace_state; fail)))
   go_wp2_with (first | (go_at_call 75; refine (deny_calls 3 _).mono ?_; rintro e w' ⟨rfl, rfl⟩))
   go_ret
   rw [HE2.out]
   refine look_some 3 ?_ rfl
   repeat (first | exact HB1.out | apply pw_below_drewN | apply below_drew1)
  | true =>
   cases hw : wholeF C.f7 with
   | false =>
    have HE2 := am (show insertCode ns pr C = some 3 by rw [HE.out, hh, hw]; rfl)
    have HH := am (fun W (hb : Below w.heap.size w W) => hh ▸ holds_calls W bj n A1 c1 kv1 _ pl1 (blk_below HTW.out hb))
    have HWC := am (fun W (hb : Below w.heap.size w W) => hw ▸ whole_calls W C.f7 A c (Kd.C_below HW.out.1 hb) HW.out.2.1 HW.out.2.2)
    clear HE hh hw
    go_enter Tryz.func148, Tryz.ntmps148
    go_wp2_with (first | (go_at_call 151; refine HT.out.mono ?_; rintro e w1 ⟨hb1, rfl⟩; have HB1 := am (below_step HB.out hb1); have hx1 : w1.cell? ⟨w.heap.size, 2, none⟩ = some (.int .i64 C.f2) := blk_cell (blk_below (blk_newest w (.cells #[.int .i64 C.f0, .int .i64 C.f1, .int .i64 C.f2, .int .i64 C.f3, .string C.f4, .string C.f5, .int .i64 C.f6, .slice A C.f7.length c] 159)) hb1) 2; obtain ⟨mb, _, hm, hq⟩ := (HG.out.below HB1.out).lookD HL.out HLK.out; have hx7 : w1.cell? ⟨w.heap.size, 7, none⟩ = some (.slice A C.f7.length c) := blk_cell (blk_below (blk_newest w (.cells #[.int .i64 C.f0, .int .i64 C.f1, .int .i64 C.f2, .int .i64 C.f3, .string C.f4, .string C.f5, .int .i64 C.f6, .slice A C.f7.length c] 159)) hb1) 7; clear hb1))
    have HB2 := am (below_step HB1.out (Below.refl w1.heap.size w1).drew)
    go_still_tail 14, (by kernel_rfl)
    still_call (HH.out _ HB2.out)
    repeat still_step
    refine wpStill_nil ?_
    change wpList _ _ _ _ _ w1.drew
    go_wp2_with (first | (go_at_call 153; refine (HWC.out _ HB2.out).mono ?_; rintro e w3 ⟨rfl, hb3⟩; have HB3 := am (below_step HB2.out hb3); clear hb3) | (go_at_call 75; refine (deny_calls 3 _).mono ?_; rintro e w' ⟨rfl, rfl⟩))
    go_ret
    rw [HE2.out]
    exact look_some 3 HB3.out rfl
   | true =>
    have HE2 := am (show insertCode ns pr C = none by rw [HE.out, hh, hw]; rfl)
    have HH := am (fun W (hb : Below w.heap.size w W) => hh ▸ holds_calls W bj n A1 c1 kv1 _ pl1 (blk_below HTW.out hb))
    have HWC := am (fun W (hb : Below w.heap.size w W) => hw ▸ whole_calls W C.f7 A c (Kd.C_below HW.out.1 hb) HW.out.2.1 HW.out.2.2)
    clear HE hh hw
    go_enter Tryz.func148, Tryz.ntmps148
    go_wp2_with (first | (go_at_call 151; refine HT.out.mono ?_; rintro e w1 ⟨hb1, rfl⟩; have HB1 := am (below_step HB.out hb1); have hx1 : w1.cell? ⟨w.heap.size, 2, none⟩ = some (.int .i64 C.f2) := blk_cell (blk_below (blk_newest w (.cells #[.int .i64 C.f0, .int .i64 C.f1, .int .i64 C.f2, .int .i64 C.f3, .string C.f4, .string C.f5, .int .i64 C.f6, .slice A C.f7.length c] 159)) hb1) 2; obtain ⟨mb, _, hm, hq⟩ := (HG.out.below HB1.out).lookD HL.out HLK.out; have hx7 : w1.cell? ⟨w.heap.size, 7, none⟩ = some (.slice A C.f7.length c) := blk_cell (blk_below (blk_newest w (.cells #[.int .i64 C.f0, .int .i64 C.f1, .int .i64 C.f2, .int .i64 C.f3, .string C.f4, .string C.f5, .int .i64 C.f6, .slice A C.f7.length c] 159)) hb1) 7; clear hb1))
    have HB2 := am (below_step HB1.out (Below.refl w1.heap.size w1).drew)
    go_still_tail 14, (by kernel_rfl)
    still_call (HH.out _ HB2.out)
    repeat still_step
    refine wpStill_nil ?_
    change wpList _ _ _ _ _ w1.drew
    go_wp2_with (first | (go_at_call 153; refine (HWC.out _ HB2.out).mono ?_; rintro e w3 ⟨rfl, hb3⟩; have HB3 := am (below_step HB2.out hb3); clear hb3) | (go_at_call 75; refine (deny_calls 3 _).mono ?_; rintro e w' ⟨rfl, rfl⟩))
    go_ret
    rw [HE2.out]
    exact ⟨HB3.out, rfl⟩
end Go.Proofs.YthjgohbkpjhkeaaGreatDoor.Impl
