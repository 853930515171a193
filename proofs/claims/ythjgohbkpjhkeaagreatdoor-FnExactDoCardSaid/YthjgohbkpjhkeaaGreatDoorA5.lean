/- Part 5 of the proof: Grow, Garden, DoFoMem. -/
import Derived.Test.YthjgohbkpjhkeaaGreatDoorA1
import Derived.Test.YthjgohbkpjhkeaaGreatDoorA4
import Derived.StillTailTactics
set_option linter.unusedVariables false
set_option linter.unusedSimpArgs false
set_option maxHeartbeats 4000000
set_option maxRecDepth 100000
namespace Go.Proofs.YthjgohbkpjhkeaaGreatDoor.Impl
open Go.RowKit Go.Proofs.YthjgohbkpjhkeaaGreatDoorW.PrintWords Go.Proofs.YthjgohbkpjhkeaaGreatDoorW.PrintLast Go.Proofs.YthjgohbkpjhkeaaGreatDoorW.PrintMore Go.Proofs.YthjgohbkpjhkeaaGreatDoor.PFnExactDo Go.Proofs.YthjgohbkpjhkeaaGreatDoor.MapLib Go.Proofs.YthjgohbkpjhkeaaGreatDoor.FireSpec Go.Proofs.YthjgohbkpjhkeaaGreatDoor.Tr
def ReadR (R : World → Prop) (w0 : World) (ad : Addr) (ns : List S95) : Prop := ∀ W, R W → Kd.C k95 W (some ad) ns.length ns ∧ ∀ q : Addr, q.block = ad.block → W.cell? q = w0.cell? q
theorem blk_add (a : Addr) (n : Nat) : (a.add n).block = a.block := by unfold Addr.add; split <;> rfl
theorem ReadR.of_below {w : World} {ad : Addr} {ns : List S95} (hin : Kd.C k95 w (some ad) ns.length ns) (hn : 0 < ns.length) : ReadR (fun W => Below w.heap.size w W) w ad ns := fun W hW => by
 refine ⟨Kd.C_below hin hW, fun q hq => hW.cell ?_⟩
 obtain ⟨ad', A3, c3, e', hx0, _⟩ := at_T95 hin ((0 : Nat) : Int) (by omega) (by omega)
 cases e'
 rw [hq]
 exact World.block_lt_of_cell? w _ hx0
def GrowEnd (ns : List S95) (R : World → Prop) (w0 w : World) (base ab lb p e : Nat) (u : Option Addr) (bs : List Nat) (lv : Value) (en : Ending) (w' : World) : Prop :=
 ∃ new lv' KV kb, kb = (bs ++ new).getD p 0 ∧ en = .returned (.pointer (some ⟨kb, 0, none⟩)) ∧ GrowPost ns R w0 w w' base ab lb p e u bs lv new lv' KV
theorem GrowLoop.behind {ns : List S95} {R : World → Prop} {w0 w wr w6 : World} {base ab lb tb b p i q e : Nat} {S : Value} {u : Option Addr} {lv : Value} {bl : List Nat} {lvk kvp : Value} {kl : List Nat} {KV KV2 : Nat → Value} {new2 : List Nat} {lv2 : Value}
  (h : GrowLoop ns R w0 w wr base ab lb tb b p i q S u lv bl lvk kvp kl KV) (G : GrowPost ns R w0 wr w6 base ab lb q e (some ⟨b, 0, none⟩) bl lvk new2 lv2 KV2) (hqe : q < e) {kb : Nat} (hkb : kb = (bl ++ new2).getD q 0) :
  ∃ v8, w6.cell? ⟨kb, 8, none⟩ = some v8 ∧ w6.frozen? ⟨kb, 8, none⟩ = false ∧ ∀ w7, w7 = w6.setCell ⟨kb, 8, none⟩ (.int .i64 i) → w7.cell? ⟨b, 6, none⟩ = some kvp ∧ PtrRow w7 base kvp kl ∧ wr.heap.size ≤ w7.heap.size ∧
   ∀ w8, w7.grownBy w8 kvp.ownBlock → w8.cell? ⟨b, 6, none⟩ = some kvp ∧ w8.frozen? ⟨b, 6, none⟩ = false := by
 obtain ⟨htw6, hkr6, hbox6, hbkb, hkvlt⟩ := h.called G hqe
 rw [← hkb] at hbkb
 obtain ⟨Ak, ck, hk1, hk2, hk3⟩ := (show Twig R w6 kb (ns.getD q z95) (KV2 q) (.pointer (some ⟨b, 0, none⟩)) 0 by rw [hkb]; exact G.root)
 have hkbf : wr.heap.size ≤ kb := by rw [hkb]; exact (G.fresh q (Nat.le_refl _) hqe).1
 refine ⟨_, blk_cell hk3 8, blk_frozen hk3 8, fun w7 h7 => ?_⟩
 obtain ⟨s7a, s7b, s7c, s7d⟩ := set_block h7 hk3
 obtain ⟨Ab, cb, hb1, hb2, hb3⟩ := htw6
 have hb7 := (s7b b (by omega)).trans hb3
 have hr7 : PtrRow w7 base kvp kl := row_keep hkr6 (fun k hk => s7b k (fun e => by have := hkvlt k hk; omega))
 refine ⟨blk_cell hb7 6, hr7, by have := G.kept.1; omega, fun w8 g8 => ?_⟩
 have hb8 := blk_grown hb7 g8 (fun e => Twig.ne_row (R := R) ⟨Ab, cb, hb1, hb2, hb7⟩ hr7 e)
 exact ⟨blk_cell hb8 6, blk_frozen hb8 6⟩
theorem infoTw : (Tryz.prog.info? 97).map (fun i => (i.zero, i.size, i.bytes)) = some (some (.pointer none), 1, 8) := by kernel_rfl
theorem growAt_step (ns : List S95) (ad : Addr) (c : Nat) (R : World → Prop) (w0 : World) (hR : ReadR R w0 ad ns) (hin : Kd.C k95 w0 (some ad) ns.length ns) (hc : ns.length ≤ c) (hk : ∀ n ∈ ns, 0 ≤ n.f5) (hn : ns.length ≤ 1100000) (base ab lb : Nat)
  (hb0 : w0.heap.size ≤ base) (hab : base ≤ ab) (hlb : base ≤ lb) (p e : Nat) (he : E (kids ns) p 1 = some e)
  (ih : ∀ (p' e' : Nat) (u : Option Addr) (bs : List Nat) (lv : Value) (w : World), p < p' → e' ≤ e → E (kids ns) p' 1 = some e' → bs.length = p' → Below w0.heap.size w0 w → base ≤ w.heap.size →
   w.heap[ab]? = some (.cells #[.int .i64 p'] 3 (0, 0)) → w.heap[lb]? = some (.cells #[lv] 96 (0, 0)) → PtrRow w base lv bs →
   Calls Tryz.prog 113 #[.agg #[.slice (some ad) ns.length c], .pointer (some ⟨ab, 0, none⟩), .pointer u, .pointer (some ⟨lb, 0, none⟩)] w (GrowEnd ns R w0 w base ab lb p' e' u bs lv))
  (u : Option Addr) (bs : List Nat) (lv : Value) (w : World) (hbs : bs.length = p) (hB : Below w0.heap.size w0 w) (hbw : base ≤ w.heap.size)
  (hat : w.heap[ab]? = some (.cells #[.int .i64 p] 3 (0, 0))) (hli : w.heap[lb]? = some (.cells #[lv] 96 (0, 0))) (hrow : PtrRow w base lv bs) :
  Calls Tryz.prog 113 #[.agg #[.slice (some ad) ns.length c], .pointer (some ⟨ab, 0, none⟩), .pointer u, .pointer (some ⟨lb, 0, none⟩)] w (GrowEnd ns R w0 w base ab lb p e u bs lv) := by
 have hut := Tryz.underlying31
 have hun := Tryz.underlying95
 have huw := Tryz.underlying99
 obtain ⟨hp, hE⟩ := E_one he
 have hpl : p < ns.length := by simpa [kids] using hp
 obtain ⟨ad', A3, c3, e', hx0, hx1, hx2, hx3, hx4, hx5, hl3, hi3⟩ := at_T95 hin (p : Int) (by omega) (by omega)
 cases e'
 have hrr : ∀ W, R W → Kd.C k149 W A3 (rd_T95 ns (p : Int)).f3.length (rd_T95 ns (p : Int)).f3 := fun W hW => by
  obtain ⟨ad2, A4, c4, e4, _, _, _, y3, _, _, yl, yi⟩ := at_T95 (hR W hW).1 (p : Int) (by omega) (by omega)
  cases e4
  rw [(hR W hW).2 ⟨(ad.add ((p : Int).toNat * 6)).block, (ad.add ((p : Int).toNat * 6)).off + 3, none⟩ (blk_add ad _), hx3] at y3
  injection y3 with y3
  injection y3 with y3 _ _
  rw [y3]
  exact yi
 replace hx0 := (hB.cell (World.block_lt_of_cell? w0 _ hx0)).trans hx0
 replace hx1 := (hB.cell (World.block_lt_of_cell? w0 _ hx1)).trans hx1
 replace hx2 := (hB.cell (World.block_lt_of_cell? w0 _ hx2)).trans hx2
 replace hx3 := (hB.cell (World.block_lt_of_cell? w0 _ hx3)).trans hx3
 replace hx4 := (hB.cell (World.block_lt_of_cell? w0 _ hx4)).trans hx4
 replace hx5 := (hB.cell (World.block_lt_of_cell? w0 _ hx5)).trans hx5
 have hca : w.cell? ⟨ab, 0, none⟩ = some (.int .i64 p) := blk_cell hat 0
 have hcl : w.cell? ⟨lb, 0, none⟩ = some lv := blk_cell hli 0
 have hrd : rd_T95 ns (p : Int) = ns.getD p z95 := rfl
 rw [hrd] at *
 rw [Int.toNat_natCast] at hx0 hx1 hx2 hx3 hx4 hx5
 have HIN := am hin
 have HIH := am ih
 have HE := am hE
 have HALL := am (And.intro hc (And.intro hk (And.intro hn (And.intro hl3 hrr))))
 have HB := am hB
 have HAT := am hat
 have HLI := am hli
 have HROW := am hrow
 have HBS := am hbs
 have hp1 : (p : Int) < ns.length := by omega
 have hp4 : (p : Int) ≤ 1100000 := by omega
 clear hin ih hE hc hk hl3 hi3 hrr hR hB hat hli hrow hbs he hrd hp hn
 go_enter Tryz.func113, Tryz.ntmps113
 go_wp2_with (first | ((with_reducible refine gate_dst (N := 4) rfl ?_); refine box_event ?hg (N := 4) ?hd (cs := #[.slice (some ad) ns.length c]) (t := 31) ?hr ?_; (case hd => rfl); (case hg => rfl); (case hr => first | (go_simp; done) | (go_simp; rfl)); intro tb htb w1 hbox hb1; have HBOX := am hbox; have HB1 := am hb1; have HTB := am htb; have hc4 : w1.cell? ⟨tb, 0, none⟩ = some (.slice (some ad) ns.length c) := blk_cell hbox 0; replace hx0 := pw_cell_below hb1 hx0; replace hx1 := pw_cell_below hb1 hx1; replace hx2 := pw_cell_below hb1 hx2; replace hx3 := pw_cell_below hb1 hx3; replace hx4 := pw_cell_below hb1 hx4; replace hx5 := pw_cell_below hb1 hx5; replace hca := pw_cell_below hb1 hca; replace hcl := pw_cell_below hb1 hcl; clear hbox hb1 htb))
 go_region
 generalize hw2 : World.drew (World.alloc _ _) = w2
 obtain ⟨b, hb⟩ : ∃ b, b = w1.heap.size := ⟨_, rfl⟩
 rw [← hb]
 have htw : w2.heap[b]? = some (.cells (twigCells (rd_T95 ns (p : Int)) A3 c3 (.slice none 0 0) (.pointer u) 0) 99 (0, 0)) := by rw [hb, ← hw2]; exact blk_newest w1 _
 have hb2 : Below w1.heap.size w1 w2 := by rw [← hw2]; exact ((Below.refl _ _).alloc (Nat.le_refl _) _).drew
 have hat2 : w2.heap[ab]? = some (.cells #[.int .i64 p] 3 (0, 0)) := blk_below (blk_below HAT.out HB1.out) hb2
 have hli2 : w2.heap[lb]? = some (.cells #[lv] 96 (0, 0)) := blk_below (blk_below HLI.out HB1.out) hb2
 have hbox2 : w2.heap[tb]? = some (.cells #[.slice (some ad) ns.length c] 31 (0, 0)) := blk_below HBOX.out hb2
 have hrow2 : PtrRow w2 base lv bs := Kd.R_below (Kd.R_below HROW.out HB1.out) hb2
 have hB2 : Below w.heap.size w w2 := below_step HB1.out hb2
 have hsz2 : b < w2.heap.size := blk_lt htw
 have HSZ := am (show w.heap.size ≤ tb ∧ tb < b by have := blk_lt HBOX.out; have := HTB.out; omega)
 have HTW2 := am htw
 have HAT2 := am hat2
 have HLI2 := am hli2
 have HBOX2 := am hbox2
 have HROW2 := am hrow2
 have HB2 := am hB2
 clear hw2 hb htw hb2 hbox2 hrow2 hB2 hsz2 hx0 hx1 hx2 hx3 hx4 hx5 hca hcl hc4 HB1 HBOX HTB
 have hca2 : w2.cell? ⟨ab, 0, none⟩ = some (.int .i64 p) := blk_cell hat2 0
 have hfa2 := blk_frozen hat2 0
 clear hat2 hli2
 go_upto_region 3 with (first | ((with_reducible refine gate_store (t := 3) (p := 26) rfl ?_); refine store_event (t := 3) (p := 26) (v := ?vo) (w1 := w2.setCell ⟨ab, 0, none⟩ (.int .i64 ((p : Int) + 1))) ?hg ?ho ?hn ?hr ?_; (case ho => rfl); (case hg => rfl); (case hn => rfl); (case hr => first | (go_simp; done) | (go_simp; rfl)); intro w3 hw3))
 obtain ⟨hat3, hk3, hs3, hbl3⟩ := set_block hw3 HAT2.out
 have hne_ab_tb : tb ≠ ab := by intro e; have h1 := HBOX2.out; rw [e, HAT2.out] at h1; injection h1 with h1; injection h1 with _ h1; revert h1; decide
 have hne_ab_lb : lb ≠ ab := by intro e; have h1 := HLI2.out; rw [e, HAT2.out] at h1; injection h1 with h1; injection h1 with _ h1; revert h1; decide
 have hne_ab_b : b ≠ ab := by intro e; have h1 := HTW2.out; rw [e, HAT2.out] at h1; injection h1 with h1; injection h1 with _ h1; revert h1; decide
 have HAT3 := am (show w3.heap[ab]? = some (.cells #[.int .i64 ((p : Int) + 1)] 3 (0, 0)) from hat3)
 have HLI3 := am ((hk3 lb hne_ab_lb).trans HLI2.out)
 have HBOX3 := am ((hk3 tb hne_ab_tb).trans HBOX2.out)
 have HTW3 := am ((hk3 b hne_ab_b).trans HTW2.out)
 have HROW3 := am (row_keep HROW2.out (fun k hk => hk3 k (fun e => row_ne_typed HROW2.out HAT2.out (by decide) (by rw [← e, hk]))))
 have HK3 := am ((Kept.of_below HB2.out (fun k => k = ab ∨ k = lb ∨ lv.ownBlock = some k)).then_ (S2 := fun k => k = ab) ⟨by omega, fun i hi hn => hk3 i hn⟩ (fun k hk => .inl (.inl hk)))
 have HBB3 := am (hbl3 _ _ (HB.out.trans (HB2.out.mono HB.out.size)) (Nat.le_trans hb0 hab))
 have HS3 := am hs3
 clear hw3 hat3 hk3 hs3 hbl3 hca2 hfa2 HAT2 HLI2 HBOX2 HTW2 HROW2 hne_ab_tb hne_ab_b
 have HNE := am hne_ab_lb
 have HABS := am (And.intro hb0 (And.intro hab (And.intro hlb hbw)))
 clear hne_ab_lb hb0 hab hlb hbw
 have hcl3 : w3.cell? ⟨lb, 0, none⟩ = some lv := blk_cell HLI3.out 0
 go_upto_region 4 with (first | ((with_reducible refine gate_builtin (b := .append) (xs := #[.tmp 30, .tmp 32]) rfl ?_); at_builtin; refine Kd.R_append ptrK (w0 := w3) base rfl (.tmp 30) (.tmp 32) 96 97 (.pointer none) 8 rfl Tryz.underlying96 infoTw rfl (by decide) (by omega) lv bs b [ptr b] (fun _ => True) (fun _ => False) rfl rfl ?aP (fun _ hk => hk.elim) ?aF ?aO ?aB ?aS ?aL ?_; (case aP => exact rfl); (case aB => exact Below.refl _ _); (case aF => exact (fun _ _ => trivial)); (case aO => exact HROW3.out); (case aS => have := HABS.out.2.2.2; have := HB2.out.size; have := HS3.out; omega); (case aL => have := HBS.out; omega); intro lv4 w4 ho hb hg hat; generalize hbs1 : bs ++ [b] = bs1 at ho; have HBS1 := am hbs1; clear hbs1; obtain ⟨A4, c4, e4⟩ := Kd.R_slice ho; have HM4 := am hat; have HROW4 := am ho; clear hat ho; subst e4; have hli4 := blk_grown HLI3.out hg (row_ne_typed HROW3.out HLI3.out (by decide)); have HLI4 := am hli4; have hcl4 : w4.cell? ⟨lb, 0, none⟩ = some lv := blk_cell hli4 0; have hfl4 := blk_frozen hli4 0; have HB4 := am hb; have HG4 := am hg; clear hb hg hli4))
 generalize hw5 : World.setCell w4 _ _ = w5
 obtain ⟨hli5, hk5, hs5, hbl5⟩ := set_block hw5.symm HLI4.out
 have hli5 : w5.heap[lb]? = some (.cells #[.slice A4 bs1.length c4] 96 (0, 0)) := hli5
 have HAT4 := blk_grown HAT3.out HG4.out (row_ne_typed HROW3.out HAT3.out (by decide))
 have HBOX4 := blk_grown HBOX3.out HG4.out (row_ne_typed HROW3.out HBOX3.out (by decide))
 have HTW4 := blk_grown HTW3.out HG4.out (row_ne_typed HROW3.out HTW3.out (by decide))
 have hat5 := (hk5 ab (blk_ne HAT4 HLI4.out (by decide))).trans HAT4
 have hbox5 := (hk5 tb (blk_ne HBOX4 HLI4.out (by decide))).trans HBOX4
 have htw5 := (hk5 b (blk_ne HTW4 HLI4.out (by decide))).trans HTW4
 have hrow5 : PtrRow w5 base (.slice A4 bs1.length c4) bs1 := row_keep HROW4.out (fun k hk => hk5 k (fun e => row_ne_typed HROW4.out HLI4.out (by decide) (by rw [← e, hk])))
 have hszs : w.heap.size ≤ w3.heap.size ∧ w3.heap.size ≤ w4.heap.size ∧ w5.heap.size = w4.heap.size := ⟨by have := HB2.out.size; have := HS3.out; omega, HG4.out.size, hs5⟩
 have hkept5 : Kept w w5 (fun k => k = ab ∨ k = lb ∨ lv.ownBlock = some k) :=
  (Kept.of_grown HG4.out HK3.out (fun k hk => .inl (.inr (.inr hk)))).then_ (S2 := fun k => k = lb) ⟨by omega, fun i hi hn => hk5 i hn⟩ (fun k hk => .inl (.inr (.inl hk)))
 have hmoved5 : (Value.slice A4 bs1.length c4).ownBlock = lv.ownBlock ∨ ∃ k, (Value.slice A4 bs1.length c4).ownBlock = some k ∧ w.heap.size ≤ k := by
  rcases HM4.out with e | ⟨k, e, hk⟩
  ·exact .inl e
  ·exact .inr ⟨k, e, by omega⟩
 have hbelow5 : Below w0.heap.size w0 w5 := hbl5 _ _ (HBB3.out.grown HG4.out HBB3.out.size (fun k hk => by have := (row_base HROW3.out k hk).1; have := HABS.out.1; omega)) (by have := HABS.out; omega)
 have hinv : GrowLoop ns R w0 w w5 base ab lb tb b p 0 (p + 1) (.slice (some ad) ns.length c) u lv bs1 (.slice A4 bs1.length c4) (.slice none 0 0) [] (fun _ => .nilFunc) := by
  have hb1 := HBS1.out
  have hbs := HBS.out
  refine ⟨E_zero _ _, Nat.zero_le _, by rw [← hb1]; simp [hbs], hbelow5, hkept5, hat5, hli5, hbox5, hrow5, hmoved5, ⟨A3, c3, HALL.out.2.2.2.1, HALL.out.2.2.2.2, htw5⟩, by rw [← hb1, ← hbs]; simp, by have := HSZ.out; omega, Kd.R_nil _ _ _ _ _, rfl, fun i' c h1 => by omega, fun k hk => by simp [Value.ownBlock] at hk, ⟨fun j h1 h2 => by omega, fun j h1 h2 => by omega, fun j j' h1 h2 => by omega⟩, fun j h1 h2 => by omega, fun j j' h1 h2 h3 => by omega⟩
 have HINV := am hinv
 clear hw5 hli5 hk5 hs5 hbl5 HAT4 HBOX4 HTW4 hat5 hbox5 hrow5 hszs hkept5 hmoved5 hbelow5 hinv HAT3 HLI3 HBOX3 HTW3 HROW3 HK3 HBB3 HS3 HLI4 HB4 HG4 HM4 HROW4 HB2 hcl3
 have hn5 : w5.cell? ⟨b, 5, none⟩ = some (.int .i64 (rd_T95 ns (p : Int)).f5) := blk_cell htw5 5
 clear htw5
 have hK : (rd_T95 ns (p : Int)).f5 = (((kids ns).getD p 0 : Nat) : Int) := by
  rw [kids_at hpl]
  have : rd_T95 ns (p : Int) = ns[p] := by simp [rd_T95, hpl]
  rw [this]
  have := HALL.out.2.1 _ (List.getElem_mem hpl)
  unfold kid
  omega
 have HK := am hK
 have HPL := am hpl
 clear hK hpl
 go_wp2
 clear hn5
 go_loopg [40] ((kids ns).getD p 0 + 1) (fun kq v40 wr => ∃ (i q : Nat) (bl : List Nat) (lvk kvp : Value) (kl : List Nat) (KV : Nat → Value), v40 = .int .i64 i ∧ Aside0 (i + kq = (kids ns).getD p 0 + 1) ∧ Aside0 (∃ m, bl = bs1 ++ m) ∧ Aside0 (GrowLoop ns R w0 w wr base ab lb tb b p i q (.slice (some ad) ns.length c) u lv bl lvk kvp kl KV))
 case atStart => exact ⟨0, _, _, _, _, _, _, rfl, ⟨by omega⟩, ⟨[], by simp⟩, HINV⟩
 case round =>
  clear HINV
  obtain ⟨i, q, bl, lvk, kvp, kl, KV, rfl, HI, HM, HL⟩ := hrel
  have hcb := blk_cell HL.out.box 0
  by_cases hlt : (i : Int) < (rd_T95 ns (p : Int)).f5
  ·have hd : decide ((i : Int) < (rd_T95 ns (p : Int)).f5) = true := decide_eq_true hlt
   have hiK : i < (kids ns).getD p 0 := by rw [HK.out] at hlt; omega
   obtain ⟨e1, he1, hle1⟩ : ∃ e1, E (kids ns) q 1 = some e1 ∧ e1 ≤ e := by
    obtain ⟨q1, h1, h2, h3⟩ := E_part HE.out (show i + 1 ≤ (kids ns).getD p 0 from hiK)
    rw [E_add, HL.out.pq] at h1
    exact ⟨q1, h1, h3⟩
   have HE1 := am (And.intro he1 (And.intro hle1 hiK))
   have hi40 : i ≤ 1100000 := by
    have := HALL.out.2.2.1
    have := (E_bounds HE.out)
    have := E_bounds HL.out.pq
    have := (E_bounds he1).2 (by omega)
    have hkl : (kids ns).length = ns.length := by simp [kids]
    have hb := fin_bounds _ _ _ _ HE.out
    simp only [List.length_drop] at hb
    omega
   have hpq : p < q := by have := E_bounds HL.out.pq; omega
   have hqe1 : q < e1 := ((E_bounds he1).2 (by omega)).1
   have HPQ := am (And.intro hpq hqe1)
   clear hiK he1 hle1 hpq hqe1 hlt
   go_upto_region 9 with (first | (go_at_call 113; refine (HIH.out q e1 (some ⟨b, 0, none⟩) bl lvk wr HPQ.out.1 HE1.out.2.1 HE1.out.1 HL.out.len HL.out.below (Nat.le_trans HABS.out.2.2.2 HL.out.kept.1) HL.out.at_ HL.out.list HL.out.row).mono ?_; rintro en w6 ⟨new2, lv2, KV2, kb, hkb, rfl, G⟩; obtain ⟨v68, hc68, hf68, hrest⟩ := HL.out.behind G HPQ.out.2 hkb; have HG := am G; have HKB := am hkb; have HREST := am hrest; clear G hkb hrest))
   generalize hw7 : World.setCell w6 _ _ = w7
   obtain ⟨hc7, hr7, hs7, hrest7⟩ := HREST.out w7 hw7.symm
   have HW7 := am hw7.symm
   have hkl7 : kl.length ≤ 1100000 := by have := HL.out.klen; omega
   obtain ⟨A7, c7, e7⟩ := Kd.R_slice hr7
   subst e7
   have HR7 := am hr7
   have HS7 := am hs7
   have HREST7 := am hrest7
   have HKL7 := am hkl7
   clear hw7 hr7 hs7 hrest7 hc68 hf68 HREST hkl7
   go_upto_region 10 with (first | ((with_reducible refine gate_builtin (b := .append) (xs := #[.tmp 56, .tmp 58]) rfl ?_); at_builtin; refine Kd.R_append ptrK (w0 := w7) base rfl (.tmp 56) (.tmp 58) 96 97 (.pointer none) 8 rfl Tryz.underlying96 infoTw rfl (by decide) (by omega) (.slice A7 kl.length c7) kl kb [ptr kb] (fun _ => True) (fun _ => False) rfl rfl ?aP (fun _ hk => hk.elim) ?aF ?aO ?aB ?aS ?aL ?_; (case aP => exact rfl); (case aB => exact Below.refl _ _); (case aF => exact (fun _ _ => trivial)); (case aO => exact HR7.out); (case aS => have := HABS.out.2.2.2; have := HL.out.kept.1; have := HS7.out; omega); (case aL => have := HKL7.out; omega); intro kv8 w8 ho hb hg hat; obtain ⟨hc86, hf86⟩ := HREST7.out w8 hg; generalize hkl8 : kl ++ [kb] = kl8 at ho; have HKL8 := am hkl8; clear hkl8; obtain ⟨A8, c8, e8⟩ := Kd.R_slice ho; have HM8 := am hat; have HROW8 := am ho; have HG8 := am hg; clear hat ho hg hb; subst e8))
   generalize hw9 : World.setCell w8 _ _ = w9
   have hnext := HL.out.next HE1.out.2.2 (by have := HPL.out; simpa [kids] using this) HE1.out.1 HG.out HABS.out.1 HABS.out.2.2.2 HKB.out HW7.out (by have := HROW8.out; rw [← HKL8.out] at this ⊢; exact this) HG8.out HM8.out hw9.symm
   have HNEXT := am hnext
   have HM9 := am (show ∃ m, bl ++ new2 = bs1 ++ m by obtain ⟨m, hm⟩ := HM.out; exact ⟨m ++ new2, by rw [hm, List.append_assoc]⟩)
   have HI9 := am (show i + 1 + (gk - 1) = (kids ns).getD p 0 + 1 ∧ 0 < gk by have := HI.out; have := HE1.out.2.2; omega)
   clear hw9 hnext hc7 hc86 hf86 HROW8 HM8 HG8 HR7 HREST7 HW7
   have hi41 : (i : Int) ≤ 1100000 := by omega
   go_wp2
   have hii : (i : Int) + 1 = ((i + 1 : Nat) : Int) := by omega
   go_roundg (gk - 1)
   case measure => have := HI9.out; omega
   case rel => exact ⟨i + 1, e1, _, _, _, _, _, by rw [hii], ⟨HI9.out.1⟩, HM9, HNEXT⟩
  ·have hd : decide ((i : Int) < (rd_T95 ns (p : Int)).f5) = false := decide_eq_false hlt
   have hiK : i = (kids ns).getD p 0 := by rw [HK.out] at hlt; have := HL.out.le; omega
   obtain ⟨m, hm⟩ := HM.out
   have hm2 : bl = bs ++ ([b] ++ m) := by rw [hm, ← HBS1.out, List.append_assoc]
   subst hm2
   have hqe : q = e := by have h1 := HE.out; have h2 := HL.out.pq; rw [hiK, h1] at h2; injection h2 with h2; exact h2.symm
   subst hqe
   have hdl := HL.out
   rw [hiK] at hdl
   have hdone := GrowLoop.done hdl (by have := HPL.out; simpa [kids] using this)
   have hbat := HL.out.bat
   have HD := am (And.intro hbat hdone)
   clear hm hdone hbat hlt hiK hdl
   go_wp2
   go_ret
   exact ⟨[b] ++ m, lvk, _, b, HD.out.1.symm, rfl, HD.out.2⟩
theorem growAt_calls (ns : List S95) (ad : Addr) (c : Nat) (R : World → Prop) (w0 : World) (hR : ReadR R w0 ad ns) (hin : Kd.C k95 w0 (some ad) ns.length ns) (hc : ns.length ≤ c) (hk : ∀ n ∈ ns, 0 ≤ n.f5) (hn : ns.length ≤ 1100000) (base ab lb : Nat)
  (hb0 : w0.heap.size ≤ base) (hab : base ≤ ab) (hlb : base ≤ lb) : ∀ (m p e : Nat), e - p ≤ m → E (kids ns) p 1 = some e → ∀ (u : Option Addr) (bs : List Nat) (lv : Value) (w : World), bs.length = p → Below w0.heap.size w0 w → base ≤ w.heap.size →
   w.heap[ab]? = some (.cells #[.int .i64 p] 3 (0, 0)) → w.heap[lb]? = some (.cells #[lv] 96 (0, 0)) → PtrRow w base lv bs →
   Calls Tryz.prog 113 #[.agg #[.slice (some ad) ns.length c], .pointer (some ⟨ab, 0, none⟩), .pointer u, .pointer (some ⟨lb, 0, none⟩)] w (GrowEnd ns R w0 w base ab lb p e u bs lv) := by
 intro m
 induction m with
 | zero =>
  intro p e hm he
  have := ((E_bounds he).2 (by omega)).1
  omega
 | succ m ih =>
  intro p e hm he u bs lv w
  have := ((E_bounds he).2 (by omega)).1
  refine growAt_step ns ad c R w0 hR hin hc hk hn base ab lb hb0 hab hlb p e he (fun p' e' u' bs' lv' w' h1 h2 h3 => ih p' e' (by omega) h3 u' bs' lv' w') u bs lv w
end Go.Proofs.YthjgohbkpjhkeaaGreatDoor.Impl
set_option maxHeartbeats 4000000
set_option maxRecDepth 100000
namespace Go.Proofs.YthjgohbkpjhkeaaGreatDoor.Impl
open Go.RowKit Go.Proofs.YthjgohbkpjhkeaaGreatDoorW.PrintWords Go.Proofs.YthjgohbkpjhkeaaGreatDoorW.PrintLast Go.Proofs.YthjgohbkpjhkeaaGreatDoorW.PrintMore Go.Proofs.YthjgohbkpjhkeaaGreatDoor.PFnExactDo Go.Proofs.YthjgohbkpjhkeaaGreatDoor.MapLib Go.Proofs.YthjgohbkpjhkeaaGreatDoor.FireSpec Go.Proofs.YthjgohbkpjhkeaaGreatDoor.Tr
structure Grown (ns : List S95) (R : World → Prop) (w : World) (base : Nat) (bs : List Nat) (lv : Value) (KV : Nat → Value) : Prop where
 len : bs.length = ns.length
 row : PtrRow w base lv bs
 laid : Laid ns R w base bs KV 0 0 ns.length
 root : Twig R w (bs.getD 0 0) (ns.getD 0 z95) (KV 0) (.pointer none) 0
 fresh : ∀ j, j < ns.length → base ≤ bs.getD j 0 ∧ ∀ k, (KV j).ownBlock = some k → base ≤ k ∧ lv.ownBlock ≠ some k
 order : ∀ j j', j < j' → j' < ns.length → bs.getD j 0 < bs.getD j' 0
theorem Grown.below {ns : List S95} {R : World → Prop} {w w1 : World} {base : Nat} {bs : List Nat} {lv : Value} {KV : Nat → Value} (h : Grown ns R w base bs lv KV) (hb : Below w.heap.size w w1) : Grown ns R w1 base bs lv KV :=
 ⟨h.len, Kd.R_below h.row hb, h.laid.below hb, h.root.keep (hb.block _ h.root.lt), h.fresh, h.order⟩
abbrev grownW (w : World) (tv : Value) : World := (((w.alloc (Obj.cells #[tv] 31)).alloc (Obj.cells #[] 97)).alloc (Obj.cells #[Value.slice (some ⟨w.heap.size + 1, 0, none⟩) 0 0] 96)).alloc (Obj.cells #[Value.int .i64 0] 3)
section
variable {w0 w : World} (tv : Value)
theorem grown_below2 : Below w.heap.size w (grownW w tv) := ((((Below.refl _ w).alloc (Nat.le_refl _) _).alloc (by simp) _).alloc (by simp; omega) _).alloc (by simp; omega) _
theorem grown_at : (grownW w tv).heap[w.heap.size + 1 + 1 + 1]? = some (.cells #[.int .i64 (0 : Nat)] 3 (0, 0)) := by
 have h := blk_newest (((w.alloc (Obj.cells #[tv] 31)).alloc (Obj.cells #[] 97)).alloc (Obj.cells #[Value.slice (some ⟨w.heap.size + 1, 0, none⟩) 0 0] 96)) (Obj.cells #[Value.int .i64 0] 3)
 simpa using h
theorem grown_list : (grownW w tv).heap[w.heap.size + 1 + 1]? = some (.cells #[Value.slice (some ⟨w.heap.size + 1, 0, none⟩) 0 0] 96 (0, 0)) := by
 have h := blk_newest ((w.alloc (Obj.cells #[tv] 31)).alloc (Obj.cells #[] 97)) (Obj.cells #[Value.slice (some ⟨w.heap.size + 1, 0, none⟩) 0 0] 96)
 exact blk_below (by simpa using h) ((Below.refl _ _).alloc (Nat.le_refl _) _)
theorem grown_row : PtrRow (grownW w tv) w.heap.size (.slice (some ⟨w.heap.size + 1, 0, none⟩) 0 0) [] := by
 have h := own_lit_of (enc := ptr) (w.alloc (Obj.cells #[tv] 31)) w.heap.size 97 [] (by simp) (by simp)
 have h2 : PtrRow ((w.alloc (Obj.cells #[tv] 31)).alloc (Obj.cells #[] 97)) w.heap.size (.slice (some ⟨w.heap.size + 1, 0, none⟩) 0 0) [] :=
  Kd.R_of_own (enc := ptr) (h1 := fun _ => rfl) (by simpa [encs] using h) (fun _ _ => trivial)
 exact Kd.R_below h2 (((Below.refl _ _).alloc (Nat.le_refl _) _).alloc (by simp) _)
end
theorem grown_calls (ns : List S95) (ad : Addr) (c : Nat) (R : World → Prop) (w : World) (hR : ReadR R w ad ns) (hin : Kd.C k95 w (some ad) ns.length ns) (hc : ns.length ≤ c) (hk : ∀ n ∈ ns, 0 ≤ n.f5) (hn : ns.length ≤ 1100000) (he : E (kids ns) 0 1 = some ns.length) :
  Calls Tryz.prog 89 #[.agg #[.slice (some ad) ns.length c]] w fun en w' => ∃ bs lv KV, en = .returned (.tuple #[.pointer (some ⟨bs.getD 0 0, 0, none⟩), lv]) ∧ Below w.heap.size w w' ∧ Grown ns R w' w.heap.size bs lv KV := by
 have hut := Tryz.underlying31
 have HIN := am hin
 have HRR := am hR
 have HALL := am (And.intro hc (And.intro hk (And.intro hn he)))
 clear hin hR hc hk hn he
 go_enter Tryz.func89, Tryz.ntmps89
 go_wp2_with (first | (go_at_call 113; refine (growAt_calls ns ad c R w HRR.out HIN.out HALL.out.1 HALL.out.2.1 HALL.out.2.2.1 w.heap.size (w.heap.size + 1 + 1 + 1) (w.heap.size + 1 + 1) (by omega) (by omega) (by omega) ns.length 0 ns.length (by omega) HALL.out.2.2.2 none [] (.slice (some ⟨w.heap.size + 1, 0, none⟩) 0 0) _ rfl (grown_below2 _) (by simp; omega) (grown_at _) (grown_list _) (grown_row _)).mono ?_; rintro en w6 ⟨new2, lv2, KV2, kb, hkb, rfl, G⟩; have HG := am G; have hli := blk_cell G.list 0; have HKB := am hkb; clear G hkb))
 have e0 : (0 : Nat) < ns.length := by have := (E_bounds HALL.out.2.2.2).2 (by omega); omega
 have hg := HG.out
 have hkb := HKB.out
 simp only [List.nil_append] at hg hkb
 have hfin := am (show Below w.heap.size w w6 ∧ Grown ns R w6 w.heap.size new2 lv2 KV2 from ⟨hg.below, by have := hg.len; simpa using this, hg.row, hg.laid, hg.root, fun j h1 => by
  have := hg.fresh j (Nat.zero_le _) h1
  have hs : w.heap.size ≤ (grownW w (.slice (some ad) ns.length c)).heap.size := (grown_below2 _).size
  exact ⟨Nat.le_trans hs this.1, fun k hk => ⟨Nat.le_trans hs (this.2 k hk).1, (this.2 k hk).2⟩⟩, fun j j' h1 h2 => hg.order j j' (Nat.zero_le _) h1 h2⟩)
 subst hkb
 clear hg HG HKB e0
 go_region
 go_wp2
 go_ret2
 have hdr : Below w6.heap.size w6 w6.drew := (Below.refl _ _).drew
 exact ⟨new2, lv2, KV2, rfl, below_step hfin.out.1 hdr, hfin.out.2.below hdr⟩
def gents (ns : List S95) (bs : List Nat) (i : Nat) : List (Int × Value) := ((ns.map (·.f0)).zip (bs.map ptr)).take i
theorem gents_next {ns : List S95} {bs : List Nat} (hl : bs.length = ns.length) {i : Nat} (hi : i < ns.length) : gents ns bs (i + 1) = gents ns bs i ++ [((ns.getD i z95).f0, ptr (bs.getD i 0))] := by
 unfold gents
 rw [List.take_succ_eq_append_getElem (by simp [hl]; omega)]
 congr 1
 simp [List.getD_eq_getElem?_getD, hi, hl]
theorem take_zip' {α β : Type} : ∀ (i : Nat) (l : List α) (m : List β), (l.zip m).take i = (l.take i).zip (m.take i)
 | 0, _, _ => by simp
 | _ + 1, [], _ => by simp
 | _ + 1, _ :: _, [] => by simp
 | i + 1, a :: l, b :: m => by simp [take_zip' i l m]
theorem mlook_zip_none {l : List Int} {vs : List Value} {k : Int} (h : k ∉ l) : mlook (l.zip vs) k = none := by
 unfold mlook
 rw [List.find?_eq_none.2]
 ·rfl
 ·intro x hx
  have := (List.of_mem_zip hx).1
  simp only [decide_eq_true_eq]
  intro e
  rw [e] at h
  exact h this
theorem gents_none {ns : List S95} {bs : List Nat} (hd : (ns.map (·.f0)).Nodup) {i : Nat} (hi : i < ns.length) : mlook (gents ns bs i) (ns.getD i z95).f0 = none := by
 unfold gents
 rw [take_zip']
 refine mlook_zip_none ?_
 intro hm
 rw [List.mem_take_iff_getElem] at hm
 obtain ⟨j, hj, e⟩ := hm
 simp only [List.length_map] at hj
 have e2 : (ns.map (·.f0))[i]'(by simpa using hi) = (ns.getD i z95).f0 := by simp [List.getD_eq_getElem?_getD, hi]
 rw [← e2] at e
 have := (List.getElem_inj hd).1 e
 omega
theorem gents_at {ns : List S95} {bs : List Nat} (hl : bs.length = ns.length) (hd : (ns.map (·.f0)).Nodup) {i : Nat} (hi : i < ns.length) : mlook (gents ns bs ns.length) (ns.getD i z95).f0 = some (ptr (bs.getD i 0)) := by
 have : ∀ m, i < m → m ≤ ns.length → mlook (gents ns bs m) (ns.getD i z95).f0 = some (ptr (bs.getD i 0)) := by
  intro m
  induction m with
  | zero => omega
  | succ m ih =>
   intro h1 h2
   rw [gents_next hl (by omega), mlook_append]
   rcases Nat.lt_or_ge i m with h3 | h3
   ·rw [ih h3 (by omega)]; rfl
   ·have : i = m := by omega
    subst this
    rw [gents_none hd hi]
    simp
 exact this _ hi (Nat.le_refl _)
theorem gents_no {ns : List S95} {bs : List Nat} {k : Int} (h : k ∉ ns.map (·.f0)) (i : Nat) : mlook (gents ns bs i) k = none := by
 unfold gents
 rw [take_zip']
 exact mlook_zip_none (fun hm => h (List.mem_of_mem_take hm))
structure Garden (ns : List S95) (R : World → Prop) (w : World) (g base : Nat) (bs : List Nat) (KV : Nat → Value) : Prop where
 blk : ∃ mb, w.heap[g]? = some (.cells #[ptr (bs.getD 0 0), .map (some mb)] 102 (0, 0)) ∧ base ≤ mb ∧ MapIs (fun n : Int => Value.int .i64 n) w mb (gents ns bs ns.length)
 at_ : base ≤ g
 grown : ∃ lv, Grown ns R w base bs lv KV
theorem newGarden_calls (ns : List S95) (ad : Addr) (c : Nat) (w : World) (hin : Kd.C k95 w (some ad) ns.length ns) (hc : ns.length ≤ c) (hk : ∀ n ∈ ns, 0 ≤ n.f5) (hn : ns.length ≤ 4000) (he : E (kids ns) 0 1 = some ns.length) (hd : (ns.map (·.f0)).Nodup) :
  Calls Tryz.prog 59 #[.agg #[.slice (some ad) ns.length c]] w fun en w' => ∃ g bs KV w0, en = .returned (.pointer (some ⟨g, 0, none⟩)) ∧ Below w.heap.size w w' ∧ Below w.heap.size w w0 ∧ Below w0.heap.size w0 w' ∧ Garden ns (fun W => Below w0.heap.size w0 W) w' g w0.heap.size bs KV := by
 have hut := Tryz.underlying31
 have hmm := fun t w => run_makeMap (P := Tryz.prog) t w
 have HIN := am hin
 have HALL := am (And.intro hc (And.intro hk (And.intro hn (And.intro he hd))))
 clear hin hc hk hn he hd
 go_enter Tryz.func59, Tryz.ntmps59
 go_wp2_with (first | (go_at_call 89; refine (grown_calls ns ad c _ _ (ReadR.of_below (Kd.C_below HIN.out ((Below.refl _ w).alloc (Nat.le_refl _) _)) (by have := (E_bounds HALL.out.2.2.2.1).2 (by omega); omega)) (Kd.C_below HIN.out ((Below.refl _ w).alloc (Nat.le_refl _) _)) HALL.out.1 HALL.out.2.1 (Nat.le_trans HALL.out.2.2.1 (by decide)) HALL.out.2.2.2.1).mono ?_; rintro en w6 ⟨bs, lv, KV, rfl, hb6, hg6⟩; obtain ⟨A6, c6, e6⟩ := Kd.R_slice hg6.row; subst e6; have HB6 := am hb6; have HG6 := am hg6; clear hb6 hg6))
 generalize hb0 : bs[0]?.getD 0 = b0
 have HB0 := am (show bs.getD 0 0 = b0 by rw [List.getD_eq_getElem?_getD]; exact hb0)
 clear hb0
 generalize hw7 : World.alloc _ _ = w7
 have hw7' : Below w6.heap.size w6 w7 ∧ w7.heap[w6.heap.size + 1]? = some (.cells #[ptr b0, .map (some w6.heap.size)] 102 (0, 0)) ∧ MapIs (fun n : Int => Value.int .i64 n) w7 w6.heap.size (gents ns bs 0) := by
  subst hw7
  have hb := ((Below.refl _ (w6.alloc (Obj.map #[] 0))).alloc (Nat.le_refl _) (Obj.cells #[ptr b0, .map (some w6.heap.size)] 102))
  exact ⟨((Below.refl _ w6).alloc (Nat.le_refl _) _).alloc (by simp) _, by simpa [ptr] using blk_newest (w6.alloc (Obj.map #[] 0)) (Obj.cells #[ptr b0, .map (some w6.heap.size)] 102), (MapIs.made w6).below hb⟩
 have HW7 := am hw7'
 have hbl := HG6.out.len
 have hns := HALL.out.2.2.1
 have hbl2 : bs.length ≤ 4000 := by omega
 clear hw7 hw7' hbl hns
 go_loopg [7, 19] (ns.length + 1) (fun kq v7 v19 w' => ∃ i : Nat, v19 = .int .i64 i ∧ Aside0 (i + kq = ns.length + 1 ∧ i ≤ ns.length) ∧ Aside0 (Below w6.heap.size w6 w') ∧ Aside0 (w'.heap[w6.heap.size + 1]? = some (.cells #[ptr b0, .map (some w6.heap.size)] 102 (0, 0))) ∧ Aside0 (MapIs (fun n : Int => Value.int .i64 n) w' w6.heap.size (gents ns bs i)))
 case atStart => exact ⟨0, rfl, ⟨by omega, by omega⟩, ⟨HW7.out.1⟩, ⟨HW7.out.2.1⟩, ⟨HW7.out.2.2⟩⟩
 case round =>
  obtain ⟨i, rfl, HI, HB, HC, HM⟩ := hrel
  have hG := HG6.out.below HB.out
  by_cases hlt : (i : Int) < bs.length
  ·have hd : decide ((i : Int) < (bs.length : Int)) = true := decide_eq_true hlt
   have hd2 : decide (i < bs.length) = true := decide_eq_true (by omega)
   have hin : i < ns.length := by have := HG6.out.len; omega
   have hrow := Kd.own_of_R hG.row
   obtain ⟨g7, c7, e7, _, _⟩ := hrow.form (by omega)
   have hcs := own_at_of (d := 0) (e7 ▸ hrow) (i : Int) (by omega) hlt
   injection e7 with e7 _ ec
   subst e7
   subst ec
   have hce : wr.cell? ⟨g7, i, none⟩ = some (ptr (bs.getD i 0)) := hcs.1
   have hcs2 := hcs.2
   rw [Int.toNat_natCast] at hcs2
   obtain ⟨up, pl, htw, _⟩ := hG.laid.twig i (Nat.zero_le _) hin
   obtain ⟨At, ct, ht1, ht2, ht3⟩ := htw
   generalize hbi : bs.getD i 0 = bi at hce ht3
   have hc0 : wr.cell? ⟨bi, 0, none⟩ = some (.int .i64 (ns.getD i z95).f0) := blk_cell ht3 0
   have hcg : wr.cell? ⟨w6.heap.size + 1, 1, none⟩ = some (.map (some w6.heap.size)) := blk_cell HC.out 1
   have HIN2 := am hin
   have HBI := am hbi
   clear hin hbi hrow hcs ht1 ht2 ht3 hG
   unfold ptr at hce
   go_upto_region 6 with (fail)
   go_still_tail 10, (by kernel_rfl)
   change wpList _ _ _ _ _ wr.drew
   have hdr : Below wr.heap.size wr wr.drew := (Below.refl _ _).drew
   at_mapUpdate
   refine wp_store_new _ rfl _ _ _ _ _ _ rfl keyI Tryz.underlying100 w6.heap.size _ rfl (HM.out.below hdr) (ns.getD i z95).f0 (by simp [List.getD_eq_getElem?_getD]; rfl) (ptr bi) rfl (gents_none HALL.out.2.2.2.2 HIN2.out) ?_
   intro w9 hm9 hg9
   have hi4 : (i : Int) ≤ 4000 := by omega
   have hcn : some (w6.heap.size + 1) ≠ some w6.heap.size := fun e => by injection e with e; omega
   have HM9 := am (show MapIs (fun n : Int => Value.int .i64 n) w9 w6.heap.size (gents ns bs (i + 1)) by rw [gents_next HG6.out.len HIN2.out, HBI.out]; exact hm9)
   have HB9 := am (show Below w6.heap.size w6 w9 from (below_step HB.out hdr).grown hg9 (below_step HB.out hdr).size (fun k hk => by injection hk with hk; omega))
   have HC9 := am (blk_grown (blk_below HC.out hdr) hg9 hcn)
   have HI9 := am (show (i + 1 + (gk - 1) = ns.length + 1 ∧ i + 1 ≤ ns.length) ∧ 0 < gk by have := HI.out; have := HIN2.out; omega)
   clear hdr hm9 hg9 hce hcs2 hc0 hcg hcn hlt
   go_wp2
   have hii : (i : Int) + 1 = ((i + 1 : Nat) : Int) := by omega
   go_roundg (gk - 1)
   case measure => have := HI9.out; omega
   case rel => exact ⟨i + 1, by rw [hii], ⟨HI9.out.1⟩, HB9, HC9, HM9⟩
  ·have hd : decide ((i : Int) < (bs.length : Int)) = false := decide_eq_false hlt
   have hd2 : decide (i < bs.length) = false := decide_eq_false (by omega)
   have hin : i = ns.length := by have := HG6.out.len; have := HI.out; omega
   go_wp2
   go_ret
   have hb1 : Below w.heap.size w (w.alloc (Obj.cells #[Value.slice (some ad) ns.length c] 31)) := (Below.refl _ _).alloc (Nat.le_refl _) _
   refine ⟨_, rfl, below_step (below_step hb1 HB6.out) HB.out, bs, KV, _, hb1, below_step HB6.out HB.out, ⟨_, HB0.out ▸ HC.out, HB6.out.size, hin ▸ HM.out⟩, ?_, _, hG⟩
   have := HB6.out.size
   omega
end Go.Proofs.YthjgohbkpjhkeaaGreatDoor.Impl
namespace Go.Proofs.YthjgohbkpjhkeaaGreatDoor.Impl
open Go.RowKit Go.Proofs.YthjgohbkpjhkeaaGreatDoorW.PrintWords Go.Proofs.YthjgohbkpjhkeaaGreatDoorW.PrintLast Go.Proofs.YthjgohbkpjhkeaaGreatDoorW.PrintMore Go.Proofs.YthjgohbkpjhkeaaGreatDoor.PFnExactDo Go.Proofs.YthjgohbkpjhkeaaGreatDoor.MapLib Go.Proofs.YthjgohbkpjhkeaaGreatDoor.FireSpec Go.Proofs.YthjgohbkpjhkeaaGreatDoor.Tr Go.Proofs.YthjgohbkpjhkeaaGreatDoor.Fo
structure TW where
 b : Nat
 n : S95
 kv : Value
def bsOf (f : Fo TW) : List Nat := (tops f).map (·.b)
def AttrsAt (w0 : World) (A : Option Addr) (c : Nat) (xs : List S149) : Prop := xs.length ≤ 1000000000 ∧ xs.length ≤ c ∧ Kd.C k149 w0 A xs.length xs
theorem attrs_nil {w : World} {A : Option Addr} {xs : List S149} (h : Kd.C k149 w A xs.length xs) (e : A = none) : xs = [] := by
 cases xs with
 | nil => rfl
 | cons x r =>
  obtain ⟨ad, h1, _⟩ := h.2.2 (by simp)
  rw [e] at h1
  cases h1
def TwigN (w0 w : World) (b : Nat) (n : S95) (kv up : Value) (pl : Int) : Prop :=
 ∃ A c, AttrsAt w0 A c n.f3 ∧ w.heap[b]? = some (.cells (twigCells n A c kv up pl) 99 (0, 0))
def IsF (w0 w : World) (base : Nat) : Value → Nat → Fo TW → Prop
 | _, _, .nil => True
 | up, i, .node x k r => (TwigN w0 w x.b x.n x.kv up (i : Int) ∧ base ≤ x.b ∧ x.n.f5 = (len k : Int) ∧ PtrRow w base x.kv (bsOf k)) ∧ IsF w0 w base (ptr x.b) 0 k ∧ IsF w0 w base up (i + 1) r
def foot : Fo TW → List Nat
 | .nil => []
 | .node x k r => x.b :: (x.kv.ownBlock.toList ++ (foot k ++ foot r))
section
variable {w0 w w1 : World} {base : Nat}
theorem TwigN.keep {b : Nat} {n : S95} {kv up : Value} {pl : Int} (h : TwigN w0 w b n kv up pl) (hb : w1.heap[b]? = w.heap[b]?) : TwigN w0 w1 b n kv up pl := by
 obtain ⟨A, c, h1, h2⟩ := h
 exact ⟨A, c, h1, hb.trans h2⟩
theorem IsF.keep : ∀ (f : Fo TW) (up : Value) (i : Nat), IsF w0 w base up i f → (∀ k ∈ foot f, w1.heap[k]? = w.heap[k]?) → IsF w0 w1 base up i f
 | .nil, _, _, _, _ => trivial
 | .node x k r, up, i, ⟨⟨h1, h2, h3, h4⟩, h5, h6⟩, hk => by
  refine ⟨⟨h1.keep (hk _ (by simp [foot])), h2, h3, row_keep h4 (fun j hj => hk j (by simp [foot, hj]))⟩, IsF.keep k _ _ h5 (fun j hj => hk j (by simp [foot, hj])), IsF.keep r _ _ h6 (fun j hj => hk j (by simp [foot, hj]))⟩
theorem IsF.typed : ∀ (f : Fo TW) (up : Value) (i : Nat), IsF w0 w base up i f → ∀ k ∈ foot f, base ≤ k ∧ k < w.heap.size ∧ ∃ cs t, w.heap[k]? = some (.cells cs t (0, 0)) ∧ (t = 99 ∨ t = 97)
 | .nil, _, _, _, k, hk => by simp [foot] at hk
 | .node x kk r, up, i, ⟨⟨h1, h2, h3, h4⟩, h5, h6⟩, k, hk => by
  simp only [foot, List.mem_cons, List.mem_append] at hk
  rcases hk with rfl | hk | hk | hk
  ·obtain ⟨A, c, _, hh⟩ := h1
   exact ⟨h2, blk_lt hh, _, _, hh, .inl rfl⟩
  ·have hk' : x.kv.ownBlock = some k := by simpa using hk
   obtain ⟨cs, hc⟩ := row_typed h4 k hk'
   exact ⟨(row_base h4 k hk').1, (row_base h4 k hk').2, _, _, hc, .inr rfl⟩
  ·exact IsF.typed kk _ _ h5 k hk
  ·exact IsF.typed r _ _ h6 k hk
theorem IsF.kept {f : Fo TW} {up : Value} {i : Nat} {S : Nat → Prop} (h : IsF w0 w base up i f) (hk : Kept w w1 S) (hS : ∀ k, S k → k < w.heap.size → ∃ cs t, w.heap[k]? = some (.cells cs t (0, 0)) ∧ t ≠ 99 ∧ t ≠ 97) : IsF w0 w1 base up i f :=
 h.keep f up i (fun k hkf => by
  obtain ⟨_, h2, cs, t, h3, h4⟩ := h.typed f up i k hkf
  refine hk.2 k h2 (fun hs => ?_)
  obtain ⟨cs', t', h5, h6, h7⟩ := hS k hs h2
  rw [h3] at h5
  injection h5 with h5
  injection h5 with _ h5
  rcases h4 with h4 | h4 <;> rw [h4] at h5
  ·exact h6 h5.symm
  ·exact h7 h5.symm)
theorem IsF.below {f : Fo TW} {up : Value} {i : Nat} (h : IsF w0 w base up i f) (hb : Below w.heap.size w w1) : IsF w0 w1 base up i f :=
 h.keep f up i (fun k hkf => hb.block k (h.typed f up i k hkf).2.1)
theorem IsF.drop : ∀ (j : Nat) (f : Fo TW) (up : Value) (i : Nat), IsF w0 w base up i f → IsF w0 w base up (i + j) (fdrop j f)
 | 0, f, _, _, h => h
 | _ + 1, .nil, _, _, h => trivial
 | j + 1, .node x k r, up, i, h => by
  have := IsF.drop j r up (i + 1) h.2.2
  rw [show i + 1 + j = i + (j + 1) from by omega] at this
  exact this
end
theorem twig_cells {w : World} {b : Nat} {n : S95} {A : Option Addr} {c : Nat} {kv up : Value} {pl : Int} (h : w.heap[b]? = some (.cells (twigCells n A c kv up pl) 99 (0, 0))) :
  (w.cell? ⟨b, 0, none⟩ = some (.int .i64 n.f0) ∧ w.cell? ⟨b, 1, none⟩ = some (.int .i64 n.f1) ∧ w.cell? ⟨b, 2, none⟩ = some (.string n.f2) ∧ w.cell? ⟨b, 3, none⟩ = some (.slice A n.f3.length c) ∧ w.cell? ⟨b, 4, none⟩ = some (.string n.f4) ∧ w.cell? ⟨b, 5, none⟩ = some (.int .i64 n.f5)) ∧ w.cell? ⟨b, 6, none⟩ = some kv ∧ w.cell? ⟨b, 7, none⟩ = some up ∧ w.cell? ⟨b, 8, none⟩ = some (.int .i64 pl) ∧ ∀ j, w.frozen? ⟨b, j, none⟩ = false :=
 ⟨⟨blk_cell h 0, blk_cell h 1, blk_cell h 2, blk_cell h 3, blk_cell h 4, blk_cell h 5⟩, blk_cell h 6, blk_cell h 7, blk_cell h 8, fun j => blk_frozen h j⟩
theorem foot_app : ∀ f g : Fo TW, foot (app f g) = foot f ++ foot g
 | .nil, g => rfl
 | .node x k r, g => by simp only [app, foot, foot_app r g, List.cons_append, List.append_assoc]
theorem bsOf_length (f : Fo TW) : (bsOf f).length = len f := by simp [bsOf, tops_length]
def nodesOf (f : Fo TW) : List S95 := (flat f).map (·.1.n)
theorem nodesOf_app (f g : Fo TW) : nodesOf (app f g) = nodesOf f ++ nodesOf g := by simp [nodesOf, flat_app]
theorem nodesOf_node (x : TW) (k r : Fo TW) : nodesOf (.node x k r) = x.n :: (nodesOf k ++ nodesOf r) := by simp [nodesOf, flat]
def size : Fo TW → Nat
 | .nil => 0
 | .node _ k r => size k + size r + 1
theorem size_app : ∀ f g : Fo TW, size (app f g) = size f + size g
 | .nil, g => by simp [app, size]
 | .node x k r, g => by simp only [app, size, size_app r g]; omega
theorem size_drop (i : Nat) (f : Fo TW) : size (fdrop i f) ≤ size f := by
 have := congrArg size (take_drop i f)
 rw [size_app] at this
 omega
theorem nodesOf_length : ∀ f : Fo TW, (nodesOf f).length = size f
 | .nil => rfl
 | .node x k r => by rw [nodesOf_node, List.length_cons, List.length_append, nodesOf_length k, nodesOf_length r, size]
theorem take_succ : ∀ (j : Nat) (f : Fo TW) (y : TW) (l r : Fo TW), fdrop j f = .node y l r → ftake (j + 1) f = app (ftake j f) (.node y l .nil)
 | 0, f, y, l, r, h => by
  simp only [fdrop] at h
  subst h
  rfl
 | j + 1, .nil, y, l, r, h => by cases h
 | j + 1, .node x k r', y, l, r, h => by
  simp only [fdrop] at h
  simp only [ftake, app]
  rw [← take_succ j r' y l r h]
theorem size_kid {j : Nat} {f : Fo TW} {y : TW} {l r : Fo TW} (h : fdrop j f = .node y l r) : size l < size f := by
 have h1 := size_drop j f
 rw [h] at h1
 simp only [size] at h1
 omega
theorem take_all (f : Fo TW) : ftake (len f) f = f := by
 have h1 := take_drop (len f) f
 have h2 : fdrop (len f) f = .nil := by
  have := len_drop (len f) f (Nat.le_refl _)
  cases h : fdrop (len f) f with
  | nil => rfl
  | node x k r => rw [h] at this; simp [len] at this
 rw [h2, app_nil] at h1
 exact h1
theorem len_size : ∀ f : Fo TW, len f ≤ size f
 | .nil => Nat.le_refl _
 | .node x k r => by have := len_size r; simp only [len, size]; omega
end Go.Proofs.YthjgohbkpjhkeaaGreatDoor.Impl
