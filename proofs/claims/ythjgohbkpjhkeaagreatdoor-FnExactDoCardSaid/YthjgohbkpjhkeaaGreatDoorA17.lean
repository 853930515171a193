/- Part 17 of the proof: DoMove, DoInsert. -/
import Derived.Test.YthjgohbkpjhkeaaGreatDoorA1
import Derived.Test.YthjgohbkpjhkeaaGreatDoorA16
import Derived.Deep.RegionWith
import Derived.Deep.RegionHeld3
import Derived.Test.YthjgohbkpjhkeaaGreatDoorA7
set_option linter.unusedVariables false
set_option linter.unusedSimpArgs false
set_option maxHeartbeats 4000000
set_option maxRecDepth 100000
namespace Go.Proofs.YthjgohbkpjhkeaaGreatDoor.Impl
open Go.RowKit Go.Proofs.YthjgohbkpjhkeaaGreatDoorW.PrintWords Go.Proofs.YthjgohbkpjhkeaaGreatDoorW.PrintLast Go.Proofs.YthjgohbkpjhkeaaGreatDoorW.PrintMore Go.Proofs.YthjgohbkpjhkeaaGreatDoor.PFnExactDo Go.Proofs.YthjgohbkpjhkeaaGreatDoor.MapLib Go.Proofs.YthjgohbkpjhkeaaGreatDoor.FireSpec Go.Proofs.YthjgohbkpjhkeaaGreatDoor.Tr Go.Proofs.YthjgohbkpjhkeaaGreatDoor.Fo
theorem mov_new {w2 w5 w6 : World} {F : Chg} {A : Option Addr} {c : Nat} (h5 : Below w2.heap.size w2 w5) (h6 : w6 = w5.alloc (mbox8 F A c 33)) : Below w2.heap.size w2 w6 ∧ w2.heap.size ≤ w5.heap.size ∧ w6.heap[w5.heap.size]? = some (mbox8 F A c 33) := by
 subst h6
 exact ⟨h5.alloc h5.size _, h5.size, blk_newest w5 _⟩
theorem mov_set {w2 w5 w6 : World} {F : Chg} {A : Option Addr} {c : Nat} (h5 : Below w2.heap.size w2 w5) (hZ : w5.heap[w2.heap.size]? = some (mbox8 ⟨0, 0, 0, 0, ⟨#[]⟩, ⟨#[]⟩, 0, []⟩ none 0 33))
  (h6 : w6 = ((((((((w5.setCell ⟨w2.heap.size, 0, none⟩ (.int .i64 F.f0)).setCell ⟨w2.heap.size, 1, none⟩ (.int .i64 F.f1)).setCell ⟨w2.heap.size, 2, none⟩ (.int .i64 F.f2)).setCell ⟨w2.heap.size, 3, none⟩ (.int .i64 F.f3)).setCell ⟨w2.heap.size, 4, none⟩ (.string F.f4)).setCell ⟨w2.heap.size, 5, none⟩ (.string F.f5)).setCell ⟨w2.heap.size, 6, none⟩ (.int .i64 F.f6)).setCell ⟨w2.heap.size, 7, none⟩ (.slice A F.f7.length c))) :
  Below w2.heap.size w2 w6 ∧ w2.heap.size ≤ w2.heap.size ∧ w6.heap[w2.heap.size]? = some (mbox8 F A c 33) := by
 obtain ⟨a1, a2, a3, a4⟩ := set8 hZ h6
 exact ⟨a4 _ _ h5 (Nat.le_refl _), Nat.le_refl _, a1⟩
structure SetZ (w w' : World) (z : Nat) : Prop where
 size : w'.heap.size = w.heap.size
 far : ∀ k, k ≠ z → w'.heap[k]? = w.heap[k]?
 typed : ∃ cs, w.heap[z]? = some (.cells cs 33 (0, 0))
 below : ∀ B w0, Below B w0 w → B ≤ z → Below B w0 w'
abbrev Goal := World → World → S95 → Option Addr → Nat → Value → Value → Int → List Nat → Nat → Prop
def Moved (Q : Goal) (w w' : World) (base pb : Nat) (n2 : S95) (A2 : Option Addr) (c2 : Nat) (kv2 up2 : Value) (pl2 : Int) (l1 : List Nat) (tb xb : Nat) (bv : Value) : Prop :=
 ∃ w6 w7 w8 w9 n3 A3 c3 kv3 up3 pl3 tl i2, Below w.heap.size w w6 ∧ Regr w6 w7 base pb n2 A2 c2 kv2 up2 pl2 l1 ∧ Q w6 w7 n3 A3 c3 kv3 up3 pl3 tl i2 ∧ Below w7.heap.size w7 w8 ∧ GiveAt w8 base tb xb i2 bv n3 A3 c3 kv3 up3 pl3 tl ∧ Regr w8 w9 base tb n3 A3 c3 kv3 up3 pl3 (tl.take i2 ++ xb :: tl.drop i2) ∧ SetZ w9 w' (w.heap.size + 1)
theorem move_do (w0 w : World) (g : Nat) (ns : List S95) (bs : List Nat) (C : Chg) (A : Option Addr) (c : Nat) (hg : GMap w g ns bs) (hl : bs.length = ns.length) (hd : (ns.map (·.f0)).Nodup) (j : Nat) (hp : place ns C.f1 = some j) (base pb : Nat) (n2 : S95) (A2 : Option Addr) (c2 : Nat) (kv2 up2 : Value) (pl2 : Int) (kf : Fo TW) (i : Nat) (x : TW) (k r : Fo TW) (hK : KidAt w0 w base pb n2 A2 c2 kv2 up2 pl2 kf i x k r) (hxb : x.b = bs.getD j 0) (tb : Nat) (htb : lkv ns bs C.f2 = .pointer (some ⟨tb, 0, none⟩)) (Q : Goal) (hT : ∀ w6 w7, Below w.heap.size w w6 → Regr w6 w7 base pb n2 A2 c2 kv2 up2 pl2 ((bsOf kf).eraseIdx i) → ∃ n3 A3 c3 kv3 up3 pl3 tl i2, Q w6 w7 n3 A3 c3 kv3 up3 pl3 tl i2 ∧ GiveAt w7 base tb x.b i2 (if C.f3 = -1 then .pointer none else lkv ns bs C.f3) n3 A3 c3 kv3 up3 pl3 tl) :
  Calls Tryz.prog 165 #[chv C A c, .pointer (some ⟨g, 0, none⟩)] w fun e w' => e = .returned (chv ⟨3, C.f1, n2.f0, nextId r, ⟨#[]⟩, ⟨#[]⟩, 0, []⟩ none 0) ∧ Moved Q w w' base pb n2 A2 c2 kv2 up2 pl2 ((bsOf kf).eraseIdx i) tb x.b (if C.f3 = -1 then .pointer none else lkv ns bs C.f3) := by
 have hut := Tryz.underlying33
 have HL := am (And.intro hl hd)
 have HG := am hg
 have HLK := am (show lkv ns bs C.f1 = .pointer (some ⟨x.b, 0, none⟩) by unfold lkv; rw [hp, hxb]; rfl)
 have HK := am hK
 obtain ⟨xb, hxb'⟩ : ∃ xb, xb = x.b := ⟨_, rfl⟩
 obtain ⟨nid, hnid⟩ : ∃ nid, nid = nextId r := ⟨_, rfl⟩
 have HAF := am (show ∀ W, Below w.heap.size w W → Calls Tryz.prog 161 #[.pointer (some ⟨xb, 0, none⟩)] W fun e w' => e = .returned (.int .i64 nid) ∧ Below W.heap.size W w' from fun W hW => by rw [hxb', hnid]; exact (hK.below hW).after.mono (fun e w' he => ⟨he.1, by obtain ⟨m, hm⟩ := he.2; rw [hm]; exact pw_below_drewN (Below.refl _ _) m⟩))
 have HTK := am (show ∀ W, Below w.heap.size w W → Calls Tryz.prog 162 #[.pointer (some ⟨pb, 0, none⟩), .pointer (some ⟨xb, 0, none⟩)] W fun e w' => e = .returned (.tuple #[]) ∧ Regr W w' base pb n2 A2 c2 kv2 up2 pl2 ((bsOf kf).eraseIdx i) from fun W hW => by rw [hxb']; exact (hK.below hW).take)
 have HT := am (show ∀ w6 w7, Below w.heap.size w w6 → Regr w6 w7 base pb n2 A2 c2 kv2 up2 pl2 ((bsOf kf).eraseIdx i) → ∃ n3 A3 c3 kv3 up3 pl3 tl i2, Q w6 w7 n3 A3 c3 kv3 up3 pl3 tl i2 ∧ GiveAt w7 base tb xb i2 (if C.f3 = -1 then .pointer none else lkv ns bs C.f3) n3 A3 c3 kv3 up3 pl3 tl by rw [hxb']; exact hT)
 have HTB := am htb
 have HX := am (show ∃ A1 c1, TwigB w xb x.n A1 c1 x.kv (ptr pb) i by obtain ⟨A1, c1, _, hx⟩ := hK.own.1.1; exact ⟨A1, c1, by rw [hxb']; exact hx⟩)
 rw [← hnid, ← hxb']
 rw [← hxb'] at HLK
 clear hg hl hd hp hK hxb hxb' hnid htb hT
 obtain ⟨bv, hbv⟩ : ∃ bv, bv = (if C.f3 = -1 then Value.pointer none else lkv ns bs C.f3) := ⟨_, rfl⟩
 rw [← hbv] at HT ⊢
 have HBV := am hbv
 clear hbv
 go_enter Tryz.func165, Tryz.ntmps165
 go_wp2_with fail
 generalize hw1 : World.alloc _ _ = w1
 have h1 : Below w.heap.size w w1 ∧ w1.heap[w.heap.size]? = some (mbox8 C A c 161) ∧ w1.heap[w.heap.size + 1]? = some (mbox8 ⟨0, 0, 0, 0, ⟨#[]⟩, ⟨#[]⟩, 0, []⟩ none 0 33) ∧ w1.heap.size = w.heap.size + 2 := by
  subst hw1
  refine ⟨((Below.refl _ w).alloc (Nat.le_refl _) _).alloc (by simp) _, blk_below (blk_newest w _) ((Below.refl _ _).alloc (Nat.le_refl _) _), ?_, by simp⟩
  have := blk_newest (w.alloc (mbox8 C A c 161)) (mbox8 ⟨0, 0, 0, 0, ⟨#[]⟩, ⟨#[]⟩, 0, []⟩ none 0 33)
  exact (congrArg (fun k => ((w.alloc (mbox8 C A c 161)).alloc (mbox8 ⟨0, 0, 0, 0, ⟨#[]⟩, ⟨#[]⟩, 0, []⟩ none 0 33)).heap[k]?) (by simp : (w.alloc (mbox8 C A c 161)).heap.size = w.heap.size + 1)).symm.trans this
 have H1 := am h1
 obtain ⟨x0, x1, x2, x3, x4, x5, x6, x7⟩ := cells8t h1.2.1
 obtain ⟨mb, _, hm, hq⟩ := (HG.out.below h1.1).look HL.out HLK.out
 clear h1 hw1
 go_quiet (fail)
 obtain ⟨w2, hw2⟩ : ∃ w2, w2 = w1.drewN nq := ⟨_, rfl⟩
 have H2 := am (show Below w.heap.size w w2 ∧ w2.heap = w1.heap from ⟨hw2 ▸ pw_below_drewN H1.out.1 _, hw2 ▸ rfl⟩)
 rw [← hw2]
 clear x0 x1 x2 x3 x4 x5 x6 x7 hm hq hw2
 obtain ⟨A1, c1, hx1⟩ := HX.out
 have hu := (twig_cells (blk_below hx1 H2.out.1)).2.2.1
 have hid := (twig_cells (blk_below HK.out.par H2.out.1)).1.1
 have hxc : w2.cell? ⟨w.heap.size, 1, none⟩ = some (.int .i64 C.f1) := by
  have := blk_cell H1.out.2.1 1
  exact (World.cell?_of_block (w := w1) (by rw [H2.out.2])).trans this
 clear hx1
 unfold ptr at hu
 go_wp2_with fail
 go_cut [6] (fun v6 wc => ∃ bc, v6 = .pointer (some ⟨bc, 0, none⟩) ∧ Aside0 (Below w2.heap.size w2 wc ∧ w2.heap.size ≤ bc ∧ wc.heap[bc]? = some (mbox8 ⟨3, C.f1, n2.f0, nid, ⟨#[]⟩, ⟨#[]⟩, 0, []⟩ none 0 33)))
 case first =>
  have hbz : Below w2.heap.size w2 (w2.alloc (.cells #[.int .i64 0, .int .i64 0, .int .i64 0, .int .i64 0, .string ⟨#[]⟩, .string ⟨#[]⟩, .int .i64 0, .slice none 0 0] 33)) := (Below.refl _ w2).alloc (Nat.le_refl _) _
  have hzu := pw_cell_below hbz hu
  have hzi := pw_cell_below hbz hid
  have hzx := pw_cell_below hbz hxc
  have hzu2 : ∀ m, ((w2.drewN m).alloc (.cells #[.int .i64 0, .int .i64 0, .int .i64 0, .int .i64 0, .string ⟨#[]⟩, .string ⟨#[]⟩, .int .i64 0, .slice none 0 0] 33)).cell? ⟨xb, 7, none⟩ = _ := fun m => pw_cell_below ((Below.refl _ (w2.drewN m)).alloc (Nat.le_refl _) _) (show (w2.drewN m).cell? ⟨xb, 7, none⟩ = _ from hu)
  have hzi2 : ∀ m, ((w2.drewN m).alloc (.cells #[.int .i64 0, .int .i64 0, .int .i64 0, .int .i64 0, .string ⟨#[]⟩, .string ⟨#[]⟩, .int .i64 0, .slice none 0 0] 33)).cell? ⟨pb, 0, none⟩ = _ := fun m => pw_cell_below ((Below.refl _ (w2.drewN m)).alloc (Nat.le_refl _) _) (show (w2.drewN m).cell? ⟨pb, 0, none⟩ = _ from hid)
  have hzx2 : ∀ m, ((w2.drewN m).alloc (.cells #[.int .i64 0, .int .i64 0, .int .i64 0, .int .i64 0, .string ⟨#[]⟩, .string ⟨#[]⟩, .int .i64 0, .slice none 0 0] 33)).cell? ⟨w.heap.size, 1, none⟩ = _ := fun m => pw_cell_below ((Below.refl _ (w2.drewN m)).alloc (Nat.le_refl _) _) (show (w2.drewN m).cell? ⟨w.heap.size, 1, none⟩ = _ from hxc)
  have HB2 := am (And.intro H2.out.1 (below_step H2.out.1 hbz))
  have HB22 := am (And.intro (Below.refl w2.heap.size w2) hbz)
  have HNE := am (show xb ≠ w2.heap.size ∧ pb ≠ w2.heap.size ∧ w.heap.size ≠ w2.heap.size from ⟨fun e => by have h1 := World.block_lt_of_cell? w2 _ hu; have h2 : xb < w2.heap.size := h1; omega, fun e => by have h1 := World.block_lt_of_cell? w2 _ hid; have h2 : pb < w2.heap.size := h1; omega, fun e => by have h1 := World.block_lt_of_cell? w2 _ hxc; have h2 : w.heap.size < w2.heap.size := h1; omega⟩)
  clear hbz
  go_region_held3 (fun W => W.cell? ⟨xb, 7, none⟩ = some (.pointer (some ⟨pb, 0, none⟩)) ∧ W.cell? ⟨pb, 0, none⟩ = some (.int .i64 n2.f0) ∧ W.cell? ⟨w.heap.size, 1, none⟩ = some (.int .i64 C.f1)) (first | (with_reducible exact ⟨hu5, hid5, hxc5⟩) | (with_reducible exact ⟨hu5z, hid5z, hxc5z⟩) | (with_reducible exact ⟨hu, hid, hxc⟩) | (with_reducible exact ⟨hzu, hzi, hzx⟩) | (with_reducible exact ⟨hzu2 _, hzi2 _, hzx2 _⟩) | (with_reducible exact ⟨pw_cell_below ((Below.refl _ _).alloc (Nat.le_refl _) _) hu5, pw_cell_below ((Below.refl _ _).alloc (Nat.le_refl _) _) hid5, pw_cell_below ((Below.refl _ _).alloc (Nat.le_refl _) _) hxc5⟩) | (with_reducible exact ⟨(cell_sets8 HNE.out.1 _ _ _ _ _ _ _ _).trans hu5, (cell_sets8 HNE.out.2.1 _ _ _ _ _ _ _ _).trans hid5, (cell_sets8 HNE.out.2.2 _ _ _ _ _ _ _ _).trans hxc5⟩) | go_keep) (first | (go_at_call 161; refine (HAF.out _ (by repeat (first | exact HB2.out.1 | exact HB2.out.2 | apply pw_below_drewN | apply below_drew1 | refine below_step ?_ ((Below.refl _ _).alloc (Nat.le_refl _) _)))).mono ?_; rintro e w5 ⟨rfl, hb5⟩; obtain ⟨A1, c1, hx1⟩ := HX.out; have HB5 := am (below_step (show Below w.heap.size w _ from (by repeat (first | exact HB2.out.1 | exact HB2.out.2 | apply pw_below_drewN | apply below_drew1 | refine below_step ?_ ((Below.refl _ _).alloc (Nat.le_refl _) _)))) hb5); have HB25 := am (below_step (show Below w2.heap.size w2 _ from (by repeat (first | exact HB22.out.1 | exact HB22.out.2 | apply pw_below_drewN | apply below_drew1 | refine below_step ?_ ((Below.refl _ _).alloc (Nat.le_refl _) _)))) hb5); have hu5 := (twig_cells (blk_below hx1 HB5.out)).2.2.1; have hid5 := (twig_cells (blk_below HK.out.par HB5.out)).1.1; have hxc5 := pw_cell_below HB25.out hxc; unfold ptr at hu5; have hb5z : Below w5.heap.size w5 (w5.alloc (.cells #[.int .i64 0, .int .i64 0, .int .i64 0, .int .i64 0, .string ⟨#[]⟩, .string ⟨#[]⟩, .int .i64 0, .slice none 0 0] 33)) := (Below.refl _ w5).alloc (Nat.le_refl _) _; have hu5z := pw_cell_below hb5z hu5; have hid5z := pw_cell_below hb5z hid5; have hxc5z := pw_cell_below hb5z hxc5; (try (have hZ : w5.heap[w2.heap.size]? = some (mbox8 ⟨0, 0, 0, 0, ⟨#[]⟩, ⟨#[]⟩, 0, []⟩ none 0 33) := (by first | exact blk_below (blk_newest w2 _) hb5 | exact blk_below (blk_newest (w2.drewN _) _) hb5 | exact blk_below (blk_newest w2.drew _) hb5); obtain ⟨z0, z1, z2, z3, z4, z5, z6, z7⟩ := cells8t hZ; have hzf := fun k => blk_frozen hZ k; have HZ5 := am hZ; clear hZ)); clear hb5 hx1 hb5z))
  all_goals
   go_wp2
   go_meet
   case rel =>
    first
    | (with_reducible refine ⟨w5.heap.size, rfl, ⟨?_⟩⟩); exact mov_new (F := ⟨3, C.f1, n2.f0, nid, ⟨#[]⟩, ⟨#[]⟩, 0, []⟩) HB25.out rfl
    | (with_reducible refine ⟨w2.heap.size, rfl, ⟨?_⟩⟩); exact mov_set (F := ⟨3, C.f1, n2.f0, nid, ⟨#[]⟩, ⟨#[]⟩, 0, []⟩) HB25.out HZ5.out rfl
 case rest =>
  obtain ⟨bc, rfl, H6⟩ := hcut
  clear hu hid hxc
  have HB6 := am (below_step H2.out.1 H6.out.1)
  obtain ⟨A1, c1, hx1⟩ := HX.out
  have hu := (twig_cells (blk_below hx1 HB6.out)).2.2.1
  unfold ptr at hu
  clear hx1
  have HZ6 := am (blk_below (show w2.heap[w.heap.size + 1]? = some (mbox8 ⟨0, 0, 0, 0, ⟨#[]⟩, ⟨#[]⟩, 0, []⟩ none 0 33) by rw [H2.out.2]; exact H1.out.2.2.1) H6.out.1)
  have HX6 := am (blk_below (show w2.heap[w.heap.size]? = some (mbox8 C A c 161) by rw [H2.out.2]; exact H1.out.2.1) H6.out.1)
  have HSZ := am (show w2.heap.size = w.heap.size + 2 ∧ w2.heap.size ≤ bc from ⟨by rw [H2.out.2]; exact H1.out.2.2.2, H6.out.2.1⟩)
  have HK6 := am (HK.out.below HB6.out)
  have HTY := am (show ∀ k ∈ (bsOf kf).eraseIdx i, ∃ n A c kv up pl, TwigB wc k n A c kv up pl from fun k hk => HK6.out.typed k (List.mem_of_mem_eraseIdx hk))
  go_wp2_with (first | (go_at_call 162; refine (HTK.out _ HB6.out).mono ?_; rintro e w7 ⟨rfl, hr7⟩; have H7 := am hr7; have HF7 := am (hr7.other HK6.out.par ⟨_, HK6.out.row⟩ HTY.out H6.out.2.2 (by decide) (by decide)); have HZ7 := am (hr7.other HK6.out.par ⟨_, HK6.out.row⟩ HTY.out HZ6.out (by decide) (by decide)); have HX7 := am (hr7.other HK6.out.par ⟨_, HK6.out.row⟩ HTY.out HX6.out (by decide) (by decide)); have HG7 := am ((HG.out.below HB6.out).regr hr7 HK6.out.par ⟨_, HK6.out.row⟩ HTY.out); obtain ⟨n3, A3, c3, kv3, up3, pl3, tl, i2, hq0, hgv⟩ := HT.out _ _ HB6.out hr7; have HGV := am hgv; have HQ0 := am hq0; clear hr7 hu hgv hq0))
  obtain ⟨mb7, _, hm7, hq7n⟩ := HG7.out.look HL.out HTB.out
  obtain ⟨hq7, hq7n', hq7d⟩ := HG7.out.at_ HL.out HTB.out hm7
  obtain ⟨y0, y1, y2, y3, y4, y5, y6, y7⟩ := cells8t HX7.out
  have HBF := am (show ∀ W, Below w7.heap.size w7 W → Calls Tryz.prog 150 #[.pointer (some ⟨g, 0, none⟩), chv C A c] W fun e w' => e = .returned (if C.f3 = -1 then .pointer none else lkv ns bs C.f3) ∧ Below W.heap.size W w' from fun W hW => before_calls W g ns bs C A c (HG7.out.below hW) HL.out.1 HL.out.2)
  rw [← HBV.out] at HBF
  have HB7 := am (And.intro (Below.refl w7.heap.size w7) (Below.refl w7.heap.size w7).drew)
  clear hq7n'
  go_region_held3 (fun W => W.cell? ⟨g, 1, none⟩ = some (.map (some mb7)) ∧ W.cell? ⟨w.heap.size, 0, none⟩ = some (.int .i64 C.f0) ∧ W.cell? ⟨w.heap.size, 1, none⟩ = some (.int .i64 C.f1) ∧ W.cell? ⟨w.heap.size, 2, none⟩ = some (.int .i64 C.f2) ∧ W.cell? ⟨w.heap.size, 3, none⟩ = some (.int .i64 C.f3) ∧ W.cell? ⟨w.heap.size, 4, none⟩ = some (.string C.f4) ∧ W.cell? ⟨w.heap.size, 5, none⟩ = some (.string C.f5) ∧ W.cell? ⟨w.heap.size, 6, none⟩ = some (.int .i64 C.f6) ∧ W.cell? ⟨w.heap.size, 7, none⟩ = some (.slice A C.f7.length c) ∧ (Instr.lookup 100 (.map (some mb7)) (.int .i64 C.f2) false).run Tryz.prog W = .ok (.pointer (some ⟨tb, 0, none⟩)) W)
   (first | (with_reducible exact ⟨hm9, v0, v1, v2, v3, v4, v5, v6, v7, hq9⟩) | (with_reducible exact ⟨hm8, x0, x1, x2, x3, x4, x5, x6, x7, hq8⟩) | (with_reducible exact ⟨hm7, y0, y1, y2, y3, y4, y5, y6, y7, hq7⟩) | (with_reducible exact ⟨hm7, y0, y1, y2, y3, y4, y5, y6, y7, hq7d⟩) | exact ⟨hm7, y0, y1, y2, y3, y4, y5, y6, y7, hq7n _⟩)
   (first | (go_at_call 150; refine (HBF.out _ (by first | exact HB7.out.1 | exact HB7.out.2)).mono ?_; rintro e w8 ⟨rfl, hb8⟩; have H8 := am (show Below w7.heap.size w7 w8 from (by first | exact below_step HB7.out.2 hb8 | exact hb8)); have HG8 := am (HG7.out.below H8.out); obtain ⟨x0, x1, x2, x3, x4, x5, x6, x7⟩ := cells8t (blk_below HX7.out H8.out); have hm8 := pw_cell_below H8.out hm7; have hq8 := (HG8.out.at_ HL.out HTB.out hm8).1; have HGV8 := am (HGV.out.below H8.out); clear hb8) | (go_at_call 149; refine HGV8.out.give.mono ?_; rintro e w9 ⟨rfl, hr9⟩; have H9 := am hr9; have HG9 := am (HG8.out.regr hr9 HGV8.out.x ⟨_, HGV8.out.row⟩ HGV8.out.mid); obtain ⟨v0, v1, v2, v3, v4, v5, v6, v7⟩ := cells8t (hr9.other HGV8.out.x ⟨_, HGV8.out.row⟩ HGV8.out.mid (blk_below HX7.out H8.out) (by decide) (by decide)); have HF9 := am (hr9.other HGV8.out.x ⟨_, HGV8.out.row⟩ HGV8.out.mid (blk_below HF7.out H8.out) (by decide) (by decide)); have HZ9 := am (hr9.other HGV8.out.x ⟨_, HGV8.out.row⟩ HGV8.out.mid (blk_below HZ7.out H8.out) (by decide) (by decide)); have hm9 := HG8.out.cell1 hr9 HGV8.out.x ⟨_, HGV8.out.row⟩ HGV8.out.mid hm8; have hq9 := (HG9.out.at_ HL.out HTB.out hm9).1; clear hr9))
  all_goals
   clear v0 v1 v2 v3 v4 v5 v6 v7 hm9 hq9 x0 x1 x2 x3 x4 x5 x6 x7 hm8 hq8 y0 y1 y2 y3 y4 y5 y6 y7 hm7 hq7 hq7d hq7n
   have HFF := am (show w9.heap[bc]? = some (mbox8 ⟨3, C.f1, n2.f0, nid, ⟨#[]⟩, ⟨#[]⟩, 0, []⟩ none 0 33) from HF9.out)
   have HZZ := am (show w9.heap[w.heap.size + 1]? = some (mbox8 ⟨0, 0, 0, 0, ⟨#[]⟩, ⟨#[]⟩, 0, []⟩ none 0 33) from HZ9.out)
   obtain ⟨y0, y1, y2, y3, y4, y5, y6, y7⟩ := cells8t HFF.out
   obtain ⟨z0, z1, z2, z3, z4, z5, z6, z7⟩ := cells8t HZZ.out
   have hzf := fun k => blk_frozen HZZ.out k
   go_wp2_with fail
   generalize hw10 : World.setCell _ _ _ = w10
   have h10 := set8 (C := ⟨3, C.f1, n2.f0, nid, ⟨#[]⟩, ⟨#[]⟩, 0, []⟩) (A := none) (c := 0) HZZ.out hw10.symm
   clear hw10 y0 y1 y2 y3 y4 y5 y6 y7 z0 z1 z2 z3 z4 z5 z6 z7 hzf
   obtain ⟨z0, z1, z2, z3, z4, z5, z6, z7⟩ := cells8t h10.1
   refine bodyPost_ret (v := chv ⟨3, C.f1, n2.f0, nid, ⟨#[]⟩, ⟨#[]⟩, 0, []⟩ none 0) (by simp [results, Tryz.results165, go_sem, z0, z1, z2, z3, z4, z5, z6, z7, hut]) rfl ⟨rfl, ?_⟩
   exact ⟨wc, w7, w8, w9, n3, A3, c3, kv3, up3, pl3, tl, i2, HB6.out, H7.out, HQ0.out, H8.out, HGV8.out, H9.out, ⟨h10.2.2.1, h10.2.1, ⟨_, HZ9.out⟩, h10.2.2.2⟩⟩
end Go.Proofs.YthjgohbkpjhkeaaGreatDoor.Impl
set_option maxHeartbeats 4000000
set_option maxRecDepth 100000
namespace Go.Proofs.YthjgohbkpjhkeaaGreatDoor.Impl
open Go.RowKit Go.Proofs.YthjgohbkpjhkeaaGreatDoorW.PrintWords Go.Proofs.YthjgohbkpjhkeaaGreatDoorW.PrintLast Go.Proofs.YthjgohbkpjhkeaaGreatDoorW.PrintMore Go.Proofs.YthjgohbkpjhkeaaGreatDoor.PFnExactDo Go.Proofs.YthjgohbkpjhkeaaGreatDoor.MapLib Go.Proofs.YthjgohbkpjhkeaaGreatDoor.FireSpec Go.Proofs.YthjgohbkpjhkeaaGreatDoor.Tr Go.Proofs.YthjgohbkpjhkeaaGreatDoor.Fo
structure GiveTo (w : World) (base tb i : Nat) (bv : Value) (n : S95) (A : Option Addr) (c : Nat) (kv up : Value) (pl : Int) (bs : List Nat) : Prop where
 x : TwigB w tb n A c kv up pl
 row : PtrRow w base kv bs
 le : i ≤ bs.length
 bef : Ahead w bv i bs.length
 kids : ∀ k ∈ bs, ∃ n A c kv up pl, TwigB w k n A c kv up pl
 nd : bs.Nodup
 nb : tb ∉ bs
 len : bs.length < 1000000000
 bb : base ≤ tb
 lo : ∀ k ∈ bs, base ≤ k
 sz : base ≤ w.heap.size
theorem GiveTo.add {w W : World} {base tb kb i : Nat} {bv : Value} {n : S95} {A : Option Addr} {c : Nat} {kv up : Value} {pl : Int} {bs : List Nat} (h : GiveTo w base tb i bv n A c kv up pl bs) (hb : Below w.heap.size w W) (hk : w.heap.size ≤ kb) (ht : ∃ n A c kv up pl, TwigB W kb n A c kv up pl) : GiveAt W base tb kb i bv n A c kv up pl bs := by
 have hlt : ∀ k ∈ bs, k < w.heap.size := fun k hk => by
  obtain ⟨n, A, c, kv, up, pl, h1⟩ := h.kids k hk
  exact blk_lt h1
 refine ⟨blk_below h.x hb, Kd.R_below h.row hb, h.le, ?_, fun k hk => ?_, List.nodup_cons.2 ⟨fun hm => by have := hlt _ hm; omega, h.nd⟩, fun hm => ?_, h.len, h.bb, fun k hk2 => ?_, Nat.le_trans h.sz hb.size⟩
 ·rcases h.bef with h1 | ⟨bb, n, A, c, kv, up, h1, h2⟩
  ·exact .inl h1
  ·exact .inr ⟨bb, n, A, c, kv, up, h1, blk_below h2 hb⟩
 ·rcases List.mem_cons.1 hk with rfl | hk
  ·exact ht
  ·obtain ⟨n, A, c, kv, up, pl, h1⟩ := h.kids k hk
   exact ⟨n, A, c, kv, up, pl, blk_below h1 hb⟩
 ·rcases List.mem_cons.1 hm with rfl | hm
  ·have := blk_lt h.x; omega
  ·exact h.nb hm
 ·rcases List.mem_cons.1 hk2 with rfl | hk2
  ·have := h.sz; omega
  ·exact h.lo k hk2
theorem node_lit (W : World) (base : Nat) (hb : base ≤ W.heap.size) : NodeRow (W.alloc (.cells #[] 95)) base (.slice (some ⟨W.heap.size, 0, none⟩) 0 0) [] :=
 Kd.S_bare ⟨fun _ _ => trivial, OwnRow.lit W base (ps := []) (inner := []) (Reps.none _ _) hb (by simp)⟩
theorem row0 {w w3 : World} {base : Nat} {u : Value} {xs : List S149} (h : Kd.R k149 149 w3 w.heap.size (fun _ => True) u xs) (hb : base ≤ w.heap.size) : Kd.R k149 149 w3 base (fun b => w.heap.size ≤ b ∧ b < w3.heap.size) u xs :=
 Kd.R_lower (Kd.R_mono (Kd.R_bound h) (fun k hk => ⟨hk.2.1, hk.2.2.1⟩)) hb
theorem old0 {w w3 : World} {base : Nat} {v : Value} {outs : List S95} (h : NodeRow w base v outs) (hb : Below w.heap.size w w3) : Kd.S k95 95 w3 base (fun k => True ∧ ¬ (w.heap.size ≤ k ∧ k < w3.heap.size)) v outs :=
 Kd.S_mono (Kd.S_old h hb) (fun k hk => ⟨trivial, fun h2 => by have := hk.2; omega⟩)
theorem GiveAt.kid {w w1 : World} {base tb kb i : Nat} {bv : Value} {n : S95} {A : Option Addr} {c : Nat} {kv up : Value} {pl : Int} {bs : List Nat} (h : GiveAt w base tb kb i bv n A c kv up pl bs) (hR : Regr w w1 base tb n A c kv up pl (bs.take i ++ kb :: bs.drop i)) {n1 : S95} {A1 : Option Addr} {c1 : Nat} {kv1 up1 : Value} {pl1 : Int} (ht : TwigB w kb n1 A1 c1 kv1 up1 pl1) : TwigB w1 kb n1 A1 c1 kv1 (ptr tb) (i : Int) := by
 have hle := h.le
 have e : (bs.take i ++ kb :: bs.drop i).getD i 0 = kb := by
  rw [List.getD_eq_getElem?_getD, List.getElem?_append_right (by rw [List.length_take]; omega), List.length_take, Nat.min_eq_left hle]
  simp
 have := hR.kids i (by simp; omega) n1 A1 c1 kv1 up1 pl1 (by rw [e]; exact ht)
 rwa [e] at this
def Part (w6 : World) (B : Nat) (W : World) : Prop := ∀ k, B ≤ k → k < w6.heap.size → W.heap[k]? = w6.heap[k]?
theorem readR_part {w6 : World} {B g n c : Nat} {ns : List S95} (h : NodeRow w6 B (.slice (some ⟨g, 0, none⟩) n c) ns) : ReadR (Part w6 B) w6 ⟨g, 0, none⟩ ns := fun W hW => by
 have h2 := Kd.S_move (w1 := W) (Kd.S_bound h) (fun k hk => hW k hk.2.1 hk.2.2.1)
 obtain ⟨e, _, hC⟩ := Kd.S_reads' h2
 have hg : B ≤ g ∧ g < w6.heap.size := ⟨Kd.S_base h g (by simp [Value.ownBlock]), Kd.S_lt h g (by simp [Value.ownBlock])⟩
 refine ⟨hC, fun q hq => ?_⟩
 exact World.cell?_of_block (w := w6) (by rw [hq]; exact hW g hg.1 hg.2)
def Planted (w w' : World) (base tb : Nat) (n3 : S95) (tl : List Nat) (i2 : Nat) (ns2 : List S95) : Prop :=
 ∃ w6 w7 w8 w9 bs2 lv KV, Below w.heap.size w w6 ∧ w.heap.size + 2 ≤ w6.heap.size ∧ Below w6.heap.size w6 w7 ∧ Grown ns2 (Part w6 (w.heap.size + 2)) w7 w6.heap.size bs2 lv KV ∧ Below w7.heap.size w7 w8 ∧ (∃ A3 c3 kv3 up3 pl3, TwigB w8 tb n3 A3 c3 kv3 up3 pl3 ∧ PtrRow w8 base kv3 tl ∧ Regr w8 w9 base tb n3 A3 c3 kv3 up3 pl3 (tl.take i2 ++ bs2.getD 0 0 :: tl.drop i2)) ∧ SetZ w9 w' (w.heap.size + 1)
theorem insert_do (w : World) (g : Nat) (ns : List S95) (bs : List Nat) (C : Chg) (A : Option Addr) (c : Nat) (hg : GMap w g ns bs) (hl : bs.length = ns.length) (hd : (ns.map (·.f0)).Nodup) (hC : Kd.C k95 w A C.f7.length C.f7) (hat : ∀ n ∈ C.f7, n.f3.length ≤ 1000000000) (hk : ∀ n ∈ C.f7, 0 ≤ n.f5) (hn : C.f7.length ≤ 1100000) (he : E (kids C.f7) 0 1 = some C.f7.length)
  (base tb i2 : Nat) (htb : lkv ns bs C.f2 = .pointer (some ⟨tb, 0, none⟩)) (n3 : S95) (A3 : Option Addr) (c3 : Nat) (kv3 up3 : Value) (pl3 : Int) (tl : List Nat) (hT : GiveTo w base tb i2 (if C.f3 = -1 then .pointer none else lkv ns bs C.f3) n3 A3 c3 kv3 up3 pl3 tl) :
  Calls Tryz.prog 147 #[chv C A c, .pointer (some ⟨g, 0, none⟩)] w fun e w' => e = .returned (chv ⟨2, (C.f7.getD 0 z95).f0, 0, 0, ⟨#[]⟩, ⟨#[]⟩, 0, []⟩ none 0) ∧ Planted w w' base tb n3 tl i2 C.f7 := by
 have hut := Tryz.underlying33
 have hun := Tryz.underlying95
 have hutr := Tryz.underlying31
 have HL := am (And.intro hl hd)
 have HG := am hg
 have HTB := am htb
 have HT := am hT
 have HC := am hC
 have HAT := am hat
 have HN := am (And.intro hk (And.intro hn he))
 obtain ⟨kid0, hkid0⟩ : ∃ kid0, kid0 = (C.f7.getD 0 z95).f0 := ⟨_, rfl⟩
 have HKID := am hkid0
 rw [← hkid0]
 clear hg hl hd hC hat hk hn he htb hT hkid0
 go_enter Tryz.func147, Tryz.ntmps147
 go_wp2_with fail
 generalize hw1 : World.alloc (World.alloc w _) _ = w1
 have h1 : Below w.heap.size w w1 ∧ w1.heap[w.heap.size]? = some (mbox8 C A c 159) ∧ w1.heap[w.heap.size + 1]? = some (mbox8 ⟨0, 0, 0, 0, ⟨#[]⟩, ⟨#[]⟩, 0, []⟩ none 0 33) ∧ w1.heap.size = w.heap.size + 2 := by
  subst hw1
  refine ⟨((Below.refl _ w).alloc (Nat.le_refl _) _).alloc (by simp) _, blk_below (blk_newest w _) ((Below.refl _ _).alloc (Nat.le_refl _) _), ?_, by simp⟩
  have := blk_newest (w.alloc (mbox8 C A c 159)) (mbox8 ⟨0, 0, 0, 0, ⟨#[]⟩, ⟨#[]⟩, 0, []⟩ none 0 33)
  exact (congrArg (fun k => ((w.alloc (mbox8 C A c 159)).alloc (mbox8 ⟨0, 0, 0, 0, ⟨#[]⟩, ⟨#[]⟩, 0, []⟩ none 0 33)).heap[k]?) (by simp : (w.alloc (mbox8 C A c 159)).heap.size = w.heap.size + 1)).symm.trans this
 have H1 := am h1
 clear h1 hw1
 have HR1 := am (show NodeRow (w1.alloc (.cells #[] 95)) (w.heap.size + 2) (.slice (some ⟨w.heap.size + 1 + 1, 0, none⟩) 0 0) [] from by
  have := node_lit w1 (w.heap.size + 2) (by rw [H1.out.2.2.2]; exact Nat.le_refl _)
  rw [H1.out.2.2.2] at this
  exact this)
 have HCLN := am (show ∀ (x : S95) (A' : Option Addr) (c' : Nat), x ∈ C.f7 → x.f3.length ≤ c' → ∀ W, Kd.C k149 W A' x.f3.length x.f3 → _ from fun x A' c' hx hc W hC => cloneNode_calls A' c' x W hC hc (fun e => attrs_nil hC e) (HAT.out x hx))
 have hlen9 : (C.f7.length : Int) ≤ 1100000 := by have := HN.out.2.1; omega
 go_loopg [5, 15] (C.f7.length + 1) (fun kq v5 v15 wr => ∃ (j : Nat) (vj : Value), vj = v5 ∧ v15 = .int .i64 j ∧ Aside0 (j + kq = C.f7.length + 1 ∧ j ≤ C.f7.length) ∧ Aside0 (NodeRow wr (w.heap.size + 2) vj (C.f7.take j)) ∧ Aside0 (Below w1.heap.size w1 wr))
 case atStart => exact ⟨0, _, rfl, rfl, ⟨by omega, by omega⟩, ⟨by simpa using HR1.out⟩, ⟨(Below.refl _ _).alloc (Nat.le_refl _) _⟩⟩
 case round =>
  clear HR1
  obtain ⟨j, vj, rfl, rfl, HJ, HR, HB⟩ := hrel
  by_cases hj : j < C.f7.length
  ·have HBW := am (below_step H1.out.1 HB.out)
   obtain ⟨ad, A4, c4, e, hx0, hx1, hx2, hx3, hx4, hx5, hl3, hi3⟩ := at_T95 (Kd.C_below HC.out HBW.out) (j : Int) (by omega) (by omega)
   have hrd : rd_T95 C.f7 (j : Int) = C.f7[j] := by simp [rd_T95, hj]
   rw [hrd] at hx0 hx1 hx2 hx3 hx4 hx5 hl3 hi3
   simp only [Int.toNat_natCast] at hx0 hx1 hx2 hx3 hx4 hx5
   obtain ⟨x, hx⟩ : ∃ x, x = C.f7[j] := ⟨_, rfl⟩
   rw [← hx] at hx0 hx1 hx2 hx3 hx4 hx5 hl3 hi3
   have HX := am (show C.f7.take (j + 1) = C.f7.take j ++ [x] by rw [List.take_succ_eq_append_getElem hj, hx])
   have HCL := am (HCLN.out x A4 c4 (by rw [hx]; exact List.getElem_mem hj) hl3)
   have HI3 := am hi3
   have hd1 : decide (j < C.f7.length) = true := decide_eq_true hj
   have hd2 : decide ((j : Int) < (C.f7.length : Int)) = true := decide_eq_true (by omega)
   have hij : (j : Int) < (C.f7.length : Int) := by omega
   have HJL := am hj
   have HAE := am e
   subst e
   clear hx hrd hj hl3 hi3
   have HSA := am (show w.heap.size + 2 ≤ (wr.alloc (.cells #[.int .i64 x.f0, .int .i64 x.f1, .string x.f2, .slice A4 x.f3.length c4, .string x.f4, .int .i64 x.f5] 95)).heap.size from by have := H1.out.2.2.2; have := HB.out.size; simp; omega)
   have HBA := am (show ∀ W, Below (wr.alloc (.cells #[.int .i64 x.f0, .int .i64 x.f1, .string x.f2, .slice A4 x.f3.length c4, .string x.f4, .int .i64 x.f5] 95)).heap.size (wr.alloc (.cells #[.int .i64 x.f0, .int .i64 x.f1, .string x.f2, .slice A4 x.f3.length c4, .string x.f4, .int .i64 x.f5] 95)) W → Below (w.heap.size + 2) w1 W from fun W hW => by
    have h2 := HB.out
    rw [H1.out.2.2.2] at h2
    have h3 := h2.trans ((((Below.refl _ wr).alloc (Nat.le_refl _) _).trans (hW.mono (by simp))).mono (by have := h2.size; have := H1.out.2.2.2; omega))
    exact h3)
   go_wp2_with (first | (go_at_call 84; refine (HCL.out _ (Kd.C_alloc HI3.out _)).mono ?_; rintro e w3 ⟨v3, rfl, hr3, hb3⟩; obtain ⟨A5, c5, e5⟩ := Kd.R_slice hr3; subst e5; have HB3 := am (And.intro hb3 hr3); clear hb3 hr3 hx0 hx1 hx2 hx3 hx4 hx5) | ((with_reducible refine gate_builtin (b := .append) (xs := #[.tmp 19, .tmp 22]) rfl ?_); at_builtin; refine Kd.S_append k95 (w0 := w1) (w.heap.size + 2) rfl (.tmp 19) (.tmp 22) 29 95 (.agg #[.int .i64 0, .int .i64 0, .string ⟨#[]⟩, .slice none 0 0, .string ⟨#[]⟩, .int .i64 0]) 80 rfl Tryz.underlying29 infoN rfl (by decide) (by omega) vj (C.f7.take j) x _ (fun _ => True) (fun b => (wr.alloc (.cells #[.int .i64 x.f0, .int .i64 x.f1, .string x.f2, .slice A4 x.f3.length c4, .string x.f4, .int .i64 x.f5] 95)).heap.size ≤ b ∧ b < w3.heap.size) rfl (by simp [Act.eval]) (k95_mkM _ _ _ x (row0 HB3.out.2 HSA.out)) (fun b hb => ⟨trivial, list_apart (Kd.S_alloc HR.out _) hb.1⟩) (fun _ _ => trivial) (old0 (Kd.S_alloc HR.out _) HB3.out.1) (HBA.out _ HB3.out.1) (Nat.le_trans HSA.out HB3.out.1.size) ?aL ?_; (case aL => have := HN.out.2.1; have := HJL.out; simp; omega); intro v4 w4 hs4 hb4 hg4 hm4; have H4 := am (And.intro hs4 hb4); clear hs4 hb4 hg4 hm4))
   have hjj : (j : Int) + 1 = ((j + 1 : Nat) : Int) := by omega
   go_roundg (gk - 1)
   case measure => have := HJ.out; have := HJL.out; omega
   case rel => exact ⟨j + 1, v4, rfl, by rw [hjj], ⟨by have := HJ.out; have := HJL.out; omega, HJL.out⟩, ⟨by rw [HX.out]; exact H4.out.1⟩, ⟨by rw [H1.out.2.2.2]; exact H4.out.2⟩⟩
  ·have hjl : j = C.f7.length := by have := HJ.out; omega
   have hd1 : decide (j < C.f7.length) = false := decide_eq_false hj
   have hd2 : decide ((j : Int) < (C.f7.length : Int)) = false := decide_eq_false (by omega)
   have hpos : 0 < C.f7.length := by
    have := (E_bounds HN.out.2.2).2 (by omega)
    omega
   have hrow := HR.out
   rw [hjl, List.take_length] at hrow
   obtain ⟨g6, c6, e6, _⟩ := Kd.S_form hrow hpos
   subst e6
   have HRW := am hrow
   have HBW := am (below_step H1.out.1 HB.out)
   have HGR := am (grown_calls C.f7 ⟨g6, 0, none⟩ c6 (Part wr (w.heap.size + 2)) wr (readR_part hrow) (Kd.S_reads' hrow).2.2 (Kd.S_reads' hrow).2.1 HN.out.1 HN.out.2.1 HN.out.2.2)
   have HSZ := am (show w.heap.size + 2 ≤ wr.heap.size by have := H1.out.2.2.2; have := HB.out.size; omega)
   have HPOS := am hpos
   clear hj hjl hpos hrow
   go_wp2_with (first | (go_at_call 89; refine HGR.out.mono ?_; rintro en w7 ⟨bs2, lv, KV, rfl, hb7, hg7⟩; obtain ⟨A7, c7, e7⟩ := Kd.R_slice hg7.row; subst e7; have HB7g := am hb7; have HGR7 := am hg7; clear hb7 hg7))
   obtain ⟨kb, hkb⟩ : ∃ kb, kb = bs2.getD 0 0 := ⟨_, rfl⟩
   have HKBE := am hkb
   have hkb' : bs2[0]?.getD 0 = kb := by rw [hkb, List.getD_eq_getElem?_getD]
   try rw [hkb']
   clear hkb hkb'
   obtain ⟨A1, c1, _, _, hkbt⟩ := HGR7.out.root
   have HKB := am (show TwigB w7 kb (C.f7.getD 0 z95) A1 c1 (KV 0) (.pointer none) 0 by rw [HKBE.out]; exact hkbt)
   clear hkbt
   have HBW7 := am (below_step HBW.out HB7g.out)
   have HB17 := am (below_step HB.out HB7g.out)
   have HX7 := am (blk_below H1.out.2.1 HB17.out)
   have HZ7 := am (blk_below H1.out.2.2.1 HB17.out)
   have HG7 := am (HG.out.below HBW7.out)
   have HGV := am (HT.out.add HBW7.out (kb := kb) (by rw [HKBE.out]; have := (HGR7.out.fresh 0 HPOS.out).1; have := HSZ.out; omega) ⟨_, _, _, _, _, _, HKB.out⟩)
   obtain ⟨mb7, _, hm7, hq7n⟩ := HG7.out.look HL.out HTB.out
   obtain ⟨hq7, hq7n', hq7d⟩ := HG7.out.at_ HL.out HTB.out hm7
   obtain ⟨y0, y1, y2, y3, y4, y5, y6, y7⟩ := cells8t HX7.out
   have HBF := am (show ∀ W, Below w7.heap.size w7 W → Calls Tryz.prog 150 #[.pointer (some ⟨g, 0, none⟩), chv C A c] W fun e w' => e = .returned (if C.f3 = -1 then .pointer none else lkv ns bs C.f3) ∧ Below W.heap.size W w' from fun W hW => before_calls W g ns bs C A c (HG7.out.below hW) HL.out.1 HL.out.2)
   generalize hbv : (if C.f3 = -1 then Value.pointer none else lkv ns bs C.f3) = bv at HBF HGV
   clear hbv
   have HB7 := am (And.intro (Below.refl w7.heap.size w7) (Below.refl w7.heap.size w7).drew)
   clear hq7n'
   go_region_held3 (fun W => W.cell? ⟨g, 1, none⟩ = some (.map (some mb7)) ∧ W.cell? ⟨w.heap.size, 0, none⟩ = some (.int .i64 C.f0) ∧ W.cell? ⟨w.heap.size, 1, none⟩ = some (.int .i64 C.f1) ∧ W.cell? ⟨w.heap.size, 2, none⟩ = some (.int .i64 C.f2) ∧ W.cell? ⟨w.heap.size, 3, none⟩ = some (.int .i64 C.f3) ∧ W.cell? ⟨w.heap.size, 4, none⟩ = some (.string C.f4) ∧ W.cell? ⟨w.heap.size, 5, none⟩ = some (.string C.f5) ∧ W.cell? ⟨w.heap.size, 6, none⟩ = some (.int .i64 C.f6) ∧ W.cell? ⟨w.heap.size, 7, none⟩ = some (.slice A C.f7.length c) ∧ (Instr.lookup 100 (.map (some mb7)) (.int .i64 C.f2) false).run Tryz.prog W = .ok (.pointer (some ⟨tb, 0, none⟩)) W)
    (first | (with_reducible exact ⟨hm9, v0, v1, v2, v3, v4, v5, v6, v7, hq9⟩) | (with_reducible exact ⟨hm8, x0, x1, x2, x3, x4, x5, x6, x7, hq8⟩) | (with_reducible exact ⟨hm7, y0, y1, y2, y3, y4, y5, y6, y7, hq7⟩) | (with_reducible exact ⟨hm7, y0, y1, y2, y3, y4, y5, y6, y7, hq7d⟩) | exact ⟨hm7, y0, y1, y2, y3, y4, y5, y6, y7, hq7n _⟩)
    (first | (go_at_call 150; refine (HBF.out _ (by first | exact HB7.out.1 | exact HB7.out.2)).mono ?_; rintro e w8 ⟨rfl, hb8⟩; have H8 := am (show Below w7.heap.size w7 w8 from (by first | exact below_step HB7.out.2 hb8 | exact hb8)); have HG8 := am (HG7.out.below H8.out); obtain ⟨x0, x1, x2, x3, x4, x5, x6, x7⟩ := cells8t (blk_below HX7.out H8.out); have hm8 := pw_cell_below H8.out hm7; have hq8 := (HG8.out.at_ HL.out HTB.out hm8).1; have HGV8 := am (HGV.out.below H8.out); clear hb8) | (go_at_call 149; refine HGV8.out.give.mono ?_; rintro e w9 ⟨rfl, hr9⟩; have H9 := am hr9; have HG9 := am (HG8.out.regr hr9 HGV8.out.x ⟨_, HGV8.out.row⟩ HGV8.out.mid); obtain ⟨v0, v1, v2, v3, v4, v5, v6, v7⟩ := cells8t (hr9.other HGV8.out.x ⟨_, HGV8.out.row⟩ HGV8.out.mid (blk_below HX7.out H8.out) (by decide) (by decide)); have HKB9 := am (HGV8.out.kid hr9 (blk_below HKB.out H8.out)); have HZ9 := am (hr9.other HGV8.out.x ⟨_, HGV8.out.row⟩ HGV8.out.mid (blk_below HZ7.out H8.out) (by decide) (by decide)); have hm9 := HG8.out.cell1 hr9 HGV8.out.x ⟨_, HGV8.out.row⟩ HGV8.out.mid hm8; have hq9 := (HG9.out.at_ HL.out HTB.out hm9).1; clear hr9))
   all_goals
    clear v0 v1 v2 v3 v4 v5 v6 v7 hm9 hq9 x0 x1 x2 x3 x4 x5 x6 x7 hm8 hq8 y0 y1 y2 y3 y4 y5 y6 y7 hm7 hq7 hq7d hq7n
    have HZZ := am (show w9.heap[w.heap.size + 1]? = some (mbox8 ⟨0, 0, 0, 0, ⟨#[]⟩, ⟨#[]⟩, 0, []⟩ none 0 33) from HZ9.out)
    have hkid := (twig_cells HKB9.out).1.1
    rw [← HKID.out] at hkid
    obtain ⟨z0, z1, z2, z3, z4, z5, z6, z7⟩ := cells8t HZZ.out
    have hzf := fun k => blk_frozen HZZ.out k
    go_wp2_with fail
    generalize hw10 : World.setCell _ _ _ = w10
    have h10 := set8 (C := ⟨2, kid0, 0, 0, ⟨#[]⟩, ⟨#[]⟩, 0, []⟩) (A := none) (c := 0) HZZ.out hw10.symm
    clear hw10 hkid z0 z1 z2 z3 z4 z5 z6 z7 hzf
    obtain ⟨z0, z1, z2, z3, z4, z5, z6, z7⟩ := cells8t h10.1
    refine bodyPost_ret (v := chv ⟨2, kid0, 0, 0, ⟨#[]⟩, ⟨#[]⟩, 0, []⟩ none 0) (by simp [results, Tryz.results147, go_sem, z0, z1, z2, z3, z4, z5, z6, z7, hut]) rfl ⟨rfl, ?_⟩
    exact ⟨wr, w7, w8, w9, bs2, _, KV, HBW.out, HSZ.out, HB7g.out, HGR7.out, H8.out, ⟨_, _, _, _, _, HGV8.out.x, HGV8.out.row, by rw [← HKBE.out]; exact H9.out⟩, ⟨h10.2.2.1, h10.2.1, ⟨_, HZ9.out⟩, h10.2.2.2⟩⟩
end Go.Proofs.YthjgohbkpjhkeaaGreatDoor.Impl
