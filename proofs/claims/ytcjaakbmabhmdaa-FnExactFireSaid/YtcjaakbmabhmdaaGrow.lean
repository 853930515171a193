/- growAt: a part of the tree laid as twigs. -/
import Derived.Test.YtcjaakbmabhmdaaGrowLoop
import Derived.Test.YtcjaakbmabhmdaaFireRun
import Derived.StillTailTactics
namespace Go.Proofs.Ytcjaakbmabhmdaa.Impl
open Go.RowKit Go.Proofs.YtcjaakbmabhmdaaW.PrintWords Go.Proofs.YtcjaakbmabhmdaaW.PrintLast Go.Proofs.YtcjaakbmabhmdaaW.PrintMore Go.Proofs.Ytcjaakbmabhmdaa.PFnExactFire Go.Proofs.Ytcjaakbmabhmdaa.MapLib Go.Proofs.Ytcjaakbmabhmdaa.FireSpec Go.Proofs.Ytcjaakbmabhmdaa.Tr
set_option linter.unusedVariables false
set_option linter.unusedSimpArgs false

def GrowEnd (ns : List S52) (w0 w : World) (base ab lb p e : Nat) (u : Option Addr) (bs : List Nat) (lv : Value) (en : Ending) (w' : World) : Prop :=
  ∃ new lv' KV kb, kb = (bs ++ new).getD p 0 ∧ en = .returned (.pointer (some ⟨kb, 0, none⟩)) ∧ GrowPost ns w0 w w' base ab lb p e u bs lv new lv' KV
/-- What a round's walk wants to know behind its call. -/
theorem GrowLoop.behind {ns : List S52} {w0 w wr w6 : World} {base ab lb tb b p i q e : Nat} {S : Value} {u : Option Addr} {lv : Value} {bl : List Nat} {lvk kvp : Value} {kl : List Nat} {KV KV2 : Nat → Value} {new2 : List Nat} {lv2 : Value}
    (h : GrowLoop ns w0 w wr base ab lb tb b p i q S u lv bl lvk kvp kl KV) (G : GrowPost ns w0 wr w6 base ab lb q e (some ⟨b, 0, none⟩) bl lvk new2 lv2 KV2) (hqe : q < e) {kb : Nat} (hkb : kb = (bl ++ new2).getD q 0) :
    ∃ v8, w6.cell? ⟨kb, 8, none⟩ = some v8 ∧ w6.frozen? ⟨kb, 8, none⟩ = false ∧ ∀ w7, w7 = w6.setCell ⟨kb, 8, none⟩ (.int .i64 i) → w7.cell? ⟨b, 6, none⟩ = some kvp ∧ PtrRow w7 base kvp kl ∧ wr.heap.size ≤ w7.heap.size ∧
      ∀ w8, w7.grownBy w8 kvp.ownBlock → w8.cell? ⟨b, 6, none⟩ = some kvp ∧ w8.frozen? ⟨b, 6, none⟩ = false := by
  obtain ⟨htw6, hkr6, hbox6, hbkb, hkvlt⟩ := h.called G hqe
  rw [← hkb] at hbkb
  obtain ⟨Ak, ck, hk1, hk2, hk3⟩ := (show Twig w0 w6 kb (ns.getD q z52) (KV2 q) (.pointer (some ⟨b, 0, none⟩)) 0 by rw [hkb]; exact G.root)
  have hkbf : wr.heap.size ≤ kb := by rw [hkb]; exact (G.fresh q (Nat.le_refl _) hqe).1
  refine ⟨_, blk_cell hk3 8, blk_frozen hk3 8, fun w7 h7 => ?_⟩
  obtain ⟨s7a, s7b, s7c, s7d⟩ := set_block h7 hk3
  obtain ⟨Ab, cb, hb1, hb2, hb3⟩ := htw6
  have hb7 := (s7b b (by omega)).trans hb3
  have hr7 : PtrRow w7 base kvp kl := row_keep hkr6 (fun k hk => s7b k (fun e => by have := hkvlt k hk; omega))
  refine ⟨blk_cell hb7 6, hr7, by have := G.kept.1; omega, fun w8 g8 => ?_⟩
  have hb8 := blk_grown hb7 g8 (fun e => Twig.ne_row (w0 := w0) ⟨Ab, cb, hb1, hb2, hb7⟩ hr7 e)
  exact ⟨blk_cell hb8 6, blk_frozen hb8 6⟩

theorem infoTw : (Try.prog.info? 56).map (fun i => (i.zero, i.size, i.bytes)) = some (some (.pointer none), 1, 8) := by kernel_rfl
set_option maxHeartbeats 4000000 in
set_option maxRecDepth 100000 in
theorem growAt_step (ns : List S52) (ad : Addr) (c : Nat) (w0 : World) (hin : Kd.C k52 w0 (some ad) ns.length ns) (hc : ns.length ≤ c) (hk : ∀ n ∈ ns, 0 ≤ n.f5) (hn : ns.length ≤ 4000) (base ab lb : Nat)
    (hb0 : w0.heap.size ≤ base) (hab : base ≤ ab) (hlb : base ≤ lb) (p e : Nat) (he : E (kids ns) p 1 = some e)
    (ih : ∀ (p' e' : Nat) (u : Option Addr) (bs : List Nat) (lv : Value) (w : World), p < p' → e' ≤ e → E (kids ns) p' 1 = some e' → bs.length = p' → Below w0.heap.size w0 w → base ≤ w.heap.size →
      w.heap[ab]? = some (.cells #[.int .i64 p'] 3 (0, 0)) → w.heap[lb]? = some (.cells #[lv] 65 (0, 0)) → PtrRow w base lv bs →
      Calls Try.prog 49 #[.agg #[.slice (some ad) ns.length c], .pointer (some ⟨ab, 0, none⟩), .pointer u, .pointer (some ⟨lb, 0, none⟩)] w (GrowEnd ns w0 w base ab lb p' e' u bs lv))
    (u : Option Addr) (bs : List Nat) (lv : Value) (w : World) (hbs : bs.length = p) (hB : Below w0.heap.size w0 w) (hbw : base ≤ w.heap.size)
    (hat : w.heap[ab]? = some (.cells #[.int .i64 p] 3 (0, 0))) (hli : w.heap[lb]? = some (.cells #[lv] 65 (0, 0))) (hrow : PtrRow w base lv bs) :
    Calls Try.prog 49 #[.agg #[.slice (some ad) ns.length c], .pointer (some ⟨ab, 0, none⟩), .pointer u, .pointer (some ⟨lb, 0, none⟩)] w (GrowEnd ns w0 w base ab lb p e u bs lv) := by
  have hut := Try.underlying32
  have hun := Try.underlying52
  have huw := Try.underlying67
  obtain ⟨hp, hE⟩ := E_one he
  have hpl : p < ns.length := by simpa [kids] using hp
  obtain ⟨ad', A3, c3, e', hx0, hx1, hx2, hx3, hx4, hx5, hl3, hi3⟩ := at_T52 hin (p : Int) (by omega) (by omega)
  cases e'
  replace hx0 := (hB.cell (World.block_lt_of_cell? w0 _ hx0)).trans hx0
  replace hx1 := (hB.cell (World.block_lt_of_cell? w0 _ hx1)).trans hx1
  replace hx2 := (hB.cell (World.block_lt_of_cell? w0 _ hx2)).trans hx2
  replace hx3 := (hB.cell (World.block_lt_of_cell? w0 _ hx3)).trans hx3
  replace hx4 := (hB.cell (World.block_lt_of_cell? w0 _ hx4)).trans hx4
  replace hx5 := (hB.cell (World.block_lt_of_cell? w0 _ hx5)).trans hx5
  have hca : w.cell? ⟨ab, 0, none⟩ = some (.int .i64 p) := blk_cell hat 0
  have hcl : w.cell? ⟨lb, 0, none⟩ = some lv := blk_cell hli 0
  have hrd : rd_T52 ns (p : Int) = ns.getD p z52 := rfl
  rw [hrd] at *
  rw [Int.toNat_natCast] at hx0 hx1 hx2 hx3 hx4 hx5
  have HIN := Aside0.mk hin
  have HIH := Aside0.mk ih
  have HE := Aside0.mk hE
  have HALL := Aside0.mk (And.intro hc (And.intro hk (And.intro hn (And.intro hl3 hi3))))
  have HB := Aside0.mk hB
  have HAT := Aside0.mk hat
  have HLI := Aside0.mk hli
  have HROW := Aside0.mk hrow
  have HBS := Aside0.mk hbs
  have hp1 : (p : Int) < ns.length := by omega
  have hp4 : (p : Int) ≤ 4000 := by omega
  clear hin ih hE hc hk hl3 hi3 hB hat hli hrow hbs he hrd hp hn
  go_enter Try.func49, Try.ntmps49
  go_wp2_with (first | ((with_reducible refine gate_dst (N := 4) rfl ?_); refine box_event ?hg (N := 4) ?hd (cs := #[.slice (some ad) ns.length c]) (t := 32) ?hr ?_; (case hd => rfl); (case hg => rfl); (case hr => first | (go_simp; done) | (go_simp; rfl)); intro tb htb w1 hbox hb1; have HBOX := Aside0.mk hbox; have HB1 := Aside0.mk hb1; have HTB := Aside0.mk htb; have hc4 : w1.cell? ⟨tb, 0, none⟩ = some (.slice (some ad) ns.length c) := blk_cell hbox 0; replace hx0 := pw_cell_below hb1 hx0; replace hx1 := pw_cell_below hb1 hx1; replace hx2 := pw_cell_below hb1 hx2; replace hx3 := pw_cell_below hb1 hx3; replace hx4 := pw_cell_below hb1 hx4; replace hx5 := pw_cell_below hb1 hx5; replace hca := pw_cell_below hb1 hca; replace hcl := pw_cell_below hb1 hcl; clear hbox hb1 htb))
  go_region
  generalize hw2 : World.drew (World.alloc _ _) = w2
  obtain ⟨b, hb⟩ : ∃ b, b = w1.heap.size := ⟨_, rfl⟩
  rw [← hb]
  have htw : w2.heap[b]? = some (.cells (twigCells (rd_T52 ns (p : Int)) A3 c3 (.slice none 0 0) (.pointer u) 0) 67 (0, 0)) := by rw [hb, ← hw2]; exact blk_newest w1 _
  have hb2 : Below w1.heap.size w1 w2 := by rw [← hw2]; exact ((Below.refl _ _).alloc (Nat.le_refl _) _).drew
  have hat2 : w2.heap[ab]? = some (.cells #[.int .i64 p] 3 (0, 0)) := blk_below (blk_below HAT.out HB1.out) hb2
  have hli2 : w2.heap[lb]? = some (.cells #[lv] 65 (0, 0)) := blk_below (blk_below HLI.out HB1.out) hb2
  have hbox2 : w2.heap[tb]? = some (.cells #[.slice (some ad) ns.length c] 32 (0, 0)) := blk_below HBOX.out hb2
  have hrow2 : PtrRow w2 base lv bs := Kd.R_below (Kd.R_below HROW.out HB1.out) hb2
  have hB2 : Below w.heap.size w w2 := below_step HB1.out hb2
  have hsz2 : b < w2.heap.size := blk_lt htw
  have HSZ := Aside0.mk (show w.heap.size ≤ tb ∧ tb < b by have := blk_lt HBOX.out; have := HTB.out; omega)
  have HTW2 := Aside0.mk htw
  have HAT2 := Aside0.mk hat2
  have HLI2 := Aside0.mk hli2
  have HBOX2 := Aside0.mk hbox2
  have HROW2 := Aside0.mk hrow2
  have HB2 := Aside0.mk hB2
  clear hw2 hb htw hb2 hbox2 hrow2 hB2 hsz2 hx0 hx1 hx2 hx3 hx4 hx5 hca hcl hc4 HB1 HBOX HTB
  have hca2 : w2.cell? ⟨ab, 0, none⟩ = some (.int .i64 p) := blk_cell hat2 0
  have hfa2 := blk_frozen hat2 0
  clear hat2 hli2
  go_upto_region 3 with (first | ((with_reducible refine gate_store (t := 3) (p := 26) rfl ?_); refine store_event (t := 3) (p := 26) (v := ?vo) (w1 := w2.setCell ⟨ab, 0, none⟩ (.int .i64 ((p : Int) + 1))) ?hg ?ho ?hn ?hr ?_; (case ho => rfl); (case hg => rfl); (case hn => rfl); (case hr => first | (go_simp; done) | (go_simp; rfl)); intro w3 hw3))
  obtain ⟨hat3, hk3, hs3, hbl3⟩ := set_block hw3 HAT2.out
  have hne_ab_tb : tb ≠ ab := by intro e; have h1 := HBOX2.out; rw [e, HAT2.out] at h1; injection h1 with h1; injection h1 with _ h1; revert h1; decide
  have hne_ab_lb : lb ≠ ab := by intro e; have h1 := HLI2.out; rw [e, HAT2.out] at h1; injection h1 with h1; injection h1 with _ h1; revert h1; decide
  have hne_ab_b : b ≠ ab := by intro e; have h1 := HTW2.out; rw [e, HAT2.out] at h1; injection h1 with h1; injection h1 with _ h1; revert h1; decide
  have HAT3 := Aside0.mk (show w3.heap[ab]? = some (.cells #[.int .i64 ((p : Int) + 1)] 3 (0, 0)) from hat3)
  have HLI3 := Aside0.mk ((hk3 lb hne_ab_lb).trans HLI2.out)
  have HBOX3 := Aside0.mk ((hk3 tb hne_ab_tb).trans HBOX2.out)
  have HTW3 := Aside0.mk ((hk3 b hne_ab_b).trans HTW2.out)
  have HROW3 := Aside0.mk (row_keep HROW2.out (fun k hk => hk3 k (fun e => row_ne_typed HROW2.out HAT2.out (by decide) (by rw [← e, hk]))))
  have HK3 := Aside0.mk ((Kept.of_below HB2.out (fun k => k = ab ∨ k = lb ∨ lv.ownBlock = some k)).then_ (S2 := fun k => k = ab) ⟨by omega, fun i hi hn => hk3 i hn⟩ (fun k hk => .inl (.inl hk)))
  have HBB3 := Aside0.mk (hbl3 _ _ (HB.out.trans (HB2.out.mono HB.out.size)) (Nat.le_trans hb0 hab))
  have HS3 := Aside0.mk hs3
  clear hw3 hat3 hk3 hs3 hbl3 hca2 hfa2 HAT2 HLI2 HBOX2 HTW2 HROW2 hne_ab_tb hne_ab_b
  have HNE := Aside0.mk hne_ab_lb
  have HABS := Aside0.mk (And.intro hb0 (And.intro hab (And.intro hlb hbw)))
  clear hne_ab_lb hb0 hab hlb hbw
  have hcl3 : w3.cell? ⟨lb, 0, none⟩ = some lv := blk_cell HLI3.out 0
  go_upto_region 4 with (first | ((with_reducible refine gate_builtin (b := .append) (xs := #[.tmp 30, .tmp 32]) rfl ?_); at_builtin; refine Kd.R_append ptrK (w0 := w3) base rfl (.tmp 30) (.tmp 32) 65 56 (.pointer none) 8 rfl Try.underlying65 infoTw rfl (by decide) (by omega) lv bs b [ptr b] (fun _ => True) (fun _ => False) rfl rfl ?aP (fun _ hk => hk.elim) ?aF ?aO ?aB ?aS ?aL ?_; (case aP => exact rfl); (case aB => exact Below.refl _ _); (case aF => exact (fun _ _ => trivial)); (case aO => exact HROW3.out); (case aS => have := HABS.out.2.2.2; have := HB2.out.size; have := HS3.out; omega); (case aL => have := HBS.out; omega); intro lv4 w4 ho hb hg hat; generalize hbs1 : bs ++ [b] = bs1 at ho; have HBS1 := Aside0.mk hbs1; clear hbs1; obtain ⟨A4, c4, e4⟩ := Kd.R_slice ho; have HM4 := Aside0.mk hat; have HROW4 := Aside0.mk ho; clear hat ho; subst e4; have hli4 := blk_grown HLI3.out hg (row_ne_typed HROW3.out HLI3.out (by decide)); have HLI4 := Aside0.mk hli4; have hcl4 : w4.cell? ⟨lb, 0, none⟩ = some lv := blk_cell hli4 0; have hfl4 := blk_frozen hli4 0; have HB4 := Aside0.mk hb; have HG4 := Aside0.mk hg; clear hb hg hli4))
  generalize hw5 : World.setCell w4 _ _ = w5
  obtain ⟨hli5, hk5, hs5, hbl5⟩ := set_block hw5.symm HLI4.out
  have hli5 : w5.heap[lb]? = some (.cells #[.slice A4 bs1.length c4] 65 (0, 0)) := hli5
  have HAT4 := blk_grown HAT3.out HG4.out (row_ne_typed HROW3.out HAT3.out (by decide))
  have HBOX4 := blk_grown HBOX3.out HG4.out (row_ne_typed HROW3.out HBOX3.out (by decide))
  have HTW4 := blk_grown HTW3.out HG4.out (row_ne_typed HROW3.out HTW3.out (by decide))
  have hat5 := (hk5 ab (blk_ne HAT4 HLI4.out (by decide))).trans HAT4
  have hbox5 := (hk5 tb (blk_ne HBOX4 HLI4.out (by decide))).trans HBOX4
  have htw5 := (hk5 b (blk_ne HTW4 HLI4.out (by decide))).trans HTW4
  have hrow5 : PtrRow w5 base (.slice A4 bs1.length c4) bs1 := row_keep HROW4.out (fun k hk => hk5 k (fun e => row_ne_typed HROW4.out HLI4.out (by decide) (by rw [← e, hk])))
  have hszs : w.heap.size ≤ w3.heap.size ∧ w3.heap.size ≤ w4.heap.size ∧ w5.heap.size = w4.heap.size := ⟨by have := HB2.out.size; have := HS3.out; omega, HG4.out.size, hs5⟩
  have hkept5 : Kept w w5 (fun k => k = ab ∨ k = lb ∨ lv.ownBlock = some k) :=
    (Kept.of_grown HG4.out HK3.out (fun k hk => .inl (.inr (.inr hk)))).then_ (S2 := fun k => k = lb) ⟨by omega, fun i hi hn => hk5 i hn⟩ (fun k hk => .inl (.inr (.inl hk)))
  have hmoved5 : (Value.slice A4 bs1.length c4).ownBlock = lv.ownBlock ∨ ∃ k, (Value.slice A4 bs1.length c4).ownBlock = some k ∧ w.heap.size ≤ k := by
    rcases HM4.out with e | ⟨k, e, hk⟩
    · exact .inl e
    · exact .inr ⟨k, e, by omega⟩
  have hbelow5 : Below w0.heap.size w0 w5 := hbl5 _ _ (HBB3.out.grown HG4.out HBB3.out.size (fun k hk => by have := (row_base HROW3.out k hk).1; have := HABS.out.1; omega)) (by have := HABS.out; omega)
  have hinv : GrowLoop ns w0 w w5 base ab lb tb b p 0 (p + 1) (.slice (some ad) ns.length c) u lv bs1 (.slice A4 bs1.length c4) (.slice none 0 0) [] (fun _ => .nilFunc) := by
    have hb1 := HBS1.out
    have hbs := HBS.out
    refine ⟨E_zero _ _, Nat.zero_le _, by rw [← hb1]; simp [hbs], hbelow5, hkept5, hat5, hli5, hbox5, hrow5, hmoved5, ⟨A3, c3, HALL.out.2.2.2.1, HALL.out.2.2.2.2, htw5⟩, by rw [← hb1, ← hbs]; simp, by have := HSZ.out; omega, Kd.R_nil _ _ _ _ _, rfl, fun i' c h1 => by omega, fun k hk => by simp [Value.ownBlock] at hk, ⟨fun j h1 h2 => by omega, fun j h1 h2 => by omega, fun j j' h1 h2 => by omega⟩, fun j h1 h2 => by omega, fun j j' h1 h2 h3 => by omega⟩
  have HINV := Aside0.mk hinv
  clear hw5 hli5 hk5 hs5 hbl5 HAT4 HBOX4 HTW4 hat5 hbox5 hrow5 hszs hkept5 hmoved5 hbelow5 hinv HAT3 HLI3 HBOX3 HTW3 HROW3 HK3 HBB3 HS3 HLI4 HB4 HG4 HM4 HROW4 HB2 hcl3
  have hn5 : w5.cell? ⟨b, 5, none⟩ = some (.int .i64 (rd_T52 ns (p : Int)).f5) := blk_cell htw5 5
  clear htw5
  have hK : (rd_T52 ns (p : Int)).f5 = (((kids ns).getD p 0 : Nat) : Int) := by
    rw [kids_at hpl]
    have : rd_T52 ns (p : Int) = ns[p] := by simp [rd_T52, hpl]
    rw [this]
    have := HALL.out.2.1 _ (List.getElem_mem hpl)
    unfold kid
    omega
  have HK := Aside0.mk hK
  have HPL := Aside0.mk hpl
  clear hK hpl
  go_wp2
  clear hn5
  go_loopg [40] ((kids ns).getD p 0 + 1) (fun kq v40 wr => ∃ (i q : Nat) (bl : List Nat) (lvk kvp : Value) (kl : List Nat) (KV : Nat → Value), v40 = .int .i64 i ∧ Aside0 (i + kq = (kids ns).getD p 0 + 1) ∧ Aside0 (∃ m, bl = bs1 ++ m) ∧ Aside0 (GrowLoop ns w0 w wr base ab lb tb b p i q (.slice (some ad) ns.length c) u lv bl lvk kvp kl KV))
  case atStart => exact ⟨0, _, _, _, _, _, _, rfl, ⟨by omega⟩, ⟨[], by simp⟩, HINV⟩
  case round =>
    clear HINV
    obtain ⟨i, q, bl, lvk, kvp, kl, KV, rfl, HI, HM, HL⟩ := hrel
    have hcb := blk_cell HL.out.box 0
    by_cases hlt : (i : Int) < (rd_T52 ns (p : Int)).f5
    · have hd : decide ((i : Int) < (rd_T52 ns (p : Int)).f5) = true := decide_eq_true hlt
      have hiK : i < (kids ns).getD p 0 := by rw [HK.out] at hlt; omega
      obtain ⟨e1, he1, hle1⟩ : ∃ e1, E (kids ns) q 1 = some e1 ∧ e1 ≤ e := by
        obtain ⟨q1, h1, h2, h3⟩ := E_part HE.out (show i + 1 ≤ (kids ns).getD p 0 from hiK)
        rw [E_add, HL.out.pq] at h1
        exact ⟨q1, h1, h3⟩
      have HE1 := Aside0.mk (And.intro he1 (And.intro hle1 hiK))
      have hi40 : i ≤ 4000 := by
        have := HALL.out.2.2.1
        have := (E_bounds HE.out)
        have := E_bounds HL.out.pq
        have := (E_bounds he1).2 (by omega)
        have hkl : (kids ns).length = ns.length := by simp [kids]
        have hb := fin_bounds _ _ _ _ HE.out
        simp only [List.length_drop] at hb
        omega
      have hpq : p < q := by have := E_bounds HL.out.pq; omega
      have hqe1 : q < e1 := ((E_bounds he1).2 (by omega)).1
      have HPQ := Aside0.mk (And.intro hpq hqe1)
      clear hiK he1 hle1 hpq hqe1 hlt
      go_upto_region 9 with (first | (go_at_call 49; refine (HIH.out q e1 (some ⟨b, 0, none⟩) bl lvk wr HPQ.out.1 HE1.out.2.1 HE1.out.1 HL.out.len HL.out.below (Nat.le_trans HABS.out.2.2.2 HL.out.kept.1) HL.out.at_ HL.out.list HL.out.row).mono ?_; rintro en w6 ⟨new2, lv2, KV2, kb, hkb, rfl, G⟩; obtain ⟨v68, hc68, hf68, hrest⟩ := HL.out.behind G HPQ.out.2 hkb; have HG := Aside0.mk G; have HKB := Aside0.mk hkb; have HREST := Aside0.mk hrest; clear G hkb hrest))
      generalize hw7 : World.setCell w6 _ _ = w7
      obtain ⟨hc7, hr7, hs7, hrest7⟩ := HREST.out w7 hw7.symm
      have HW7 := Aside0.mk hw7.symm
      have hkl7 : kl.length ≤ 4000 := by have := HL.out.klen; omega
      obtain ⟨A7, c7, e7⟩ := Kd.R_slice hr7
      subst e7
      have HR7 := Aside0.mk hr7
      have HS7 := Aside0.mk hs7
      have HREST7 := Aside0.mk hrest7
      have HKL7 := Aside0.mk hkl7
      clear hw7 hr7 hs7 hrest7 hc68 hf68 HREST hkl7
      go_upto_region 10 with (first | ((with_reducible refine gate_builtin (b := .append) (xs := #[.tmp 56, .tmp 58]) rfl ?_); at_builtin; refine Kd.R_append ptrK (w0 := w7) base rfl (.tmp 56) (.tmp 58) 65 56 (.pointer none) 8 rfl Try.underlying65 infoTw rfl (by decide) (by omega) (.slice A7 kl.length c7) kl kb [ptr kb] (fun _ => True) (fun _ => False) rfl rfl ?aP (fun _ hk => hk.elim) ?aF ?aO ?aB ?aS ?aL ?_; (case aP => exact rfl); (case aB => exact Below.refl _ _); (case aF => exact (fun _ _ => trivial)); (case aO => exact HR7.out); (case aS => have := HABS.out.2.2.2; have := HL.out.kept.1; have := HS7.out; omega); (case aL => have := HKL7.out; omega); intro kv8 w8 ho hb hg hat; obtain ⟨hc86, hf86⟩ := HREST7.out w8 hg; generalize hkl8 : kl ++ [kb] = kl8 at ho; have HKL8 := Aside0.mk hkl8; clear hkl8; obtain ⟨A8, c8, e8⟩ := Kd.R_slice ho; have HM8 := Aside0.mk hat; have HROW8 := Aside0.mk ho; have HG8 := Aside0.mk hg; clear hat ho hg hb; subst e8))
      generalize hw9 : World.setCell w8 _ _ = w9
      have hnext := HL.out.next HE1.out.2.2 (by have := HPL.out; simpa [kids] using this) HE1.out.1 HG.out HABS.out.1 HABS.out.2.2.2 HKB.out HW7.out (by have := HROW8.out; rw [← HKL8.out] at this ⊢; exact this) HG8.out HM8.out hw9.symm
      have HNEXT := Aside0.mk hnext
      have HM9 := Aside0.mk (show ∃ m, bl ++ new2 = bs1 ++ m by obtain ⟨m, hm⟩ := HM.out; exact ⟨m ++ new2, by rw [hm, List.append_assoc]⟩)
      have HI9 := Aside0.mk (show i + 1 + (gk - 1) = (kids ns).getD p 0 + 1 ∧ 0 < gk by have := HI.out; have := HE1.out.2.2; omega)
      clear hw9 hnext hc7 hc86 hf86 HROW8 HM8 HG8 HR7 HREST7 HW7
      have hi41 : (i : Int) ≤ 4000 := by omega
      go_wp2
      have hii : (i : Int) + 1 = ((i + 1 : Nat) : Int) := by omega
      go_roundg (gk - 1)
      case measure => have := HI9.out; omega
      case rel => exact ⟨i + 1, e1, _, _, _, _, _, by rw [hii], ⟨HI9.out.1⟩, HM9, HNEXT⟩
    · have hd : decide ((i : Int) < (rd_T52 ns (p : Int)).f5) = false := decide_eq_false hlt
      have hiK : i = (kids ns).getD p 0 := by rw [HK.out] at hlt; have := HL.out.le; omega
      obtain ⟨m, hm⟩ := HM.out
      have hm2 : bl = bs ++ ([b] ++ m) := by rw [hm, ← HBS1.out, List.append_assoc]
      subst hm2
      have hqe : q = e := by have h1 := HE.out; have h2 := HL.out.pq; rw [hiK, h1] at h2; injection h2 with h2; exact h2.symm
      subst hqe
      have hdl := HL.out
      rw [hiK] at hdl
      have hdone := GrowLoop.done hdl (by have := HPL.out; simpa [kids] using this)
      have hbat := HL.out.bat
      have HD := Aside0.mk (And.intro hbat hdone)
      clear hm hdone hbat hlt hiK hdl
      go_wp2
      go_ret
      exact ⟨[b] ++ m, lvk, _, b, HD.out.1.symm, rfl, HD.out.2⟩

theorem growAt_calls (ns : List S52) (ad : Addr) (c : Nat) (w0 : World) (hin : Kd.C k52 w0 (some ad) ns.length ns) (hc : ns.length ≤ c) (hk : ∀ n ∈ ns, 0 ≤ n.f5) (hn : ns.length ≤ 4000) (base ab lb : Nat)
    (hb0 : w0.heap.size ≤ base) (hab : base ≤ ab) (hlb : base ≤ lb) : ∀ (m p e : Nat), e - p ≤ m → E (kids ns) p 1 = some e → ∀ (u : Option Addr) (bs : List Nat) (lv : Value) (w : World), bs.length = p → Below w0.heap.size w0 w → base ≤ w.heap.size →
      w.heap[ab]? = some (.cells #[.int .i64 p] 3 (0, 0)) → w.heap[lb]? = some (.cells #[lv] 65 (0, 0)) → PtrRow w base lv bs →
      Calls Try.prog 49 #[.agg #[.slice (some ad) ns.length c], .pointer (some ⟨ab, 0, none⟩), .pointer u, .pointer (some ⟨lb, 0, none⟩)] w (GrowEnd ns w0 w base ab lb p e u bs lv) := by
  intro m
  induction m with
  | zero =>
    intro p e hm he
    have := ((E_bounds he).2 (by omega)).1
    omega
  | succ m ih =>
    intro p e hm he u bs lv w
    have := ((E_bounds he).2 (by omega)).1
    refine growAt_step ns ad c w0 hin hc hk hn base ab lb hb0 hab hlb p e he (fun p' e' u' bs' lv' w' h1 h2 h3 => ih p' e' (by omega) h3 u' bs' lv' w') u bs lv w
end Go.Proofs.Ytcjaakbmabhmdaa.Impl
