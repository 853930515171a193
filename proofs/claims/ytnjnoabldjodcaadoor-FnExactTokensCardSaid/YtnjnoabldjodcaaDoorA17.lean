/- Part 17 of the proof: TokTagI, TokTagE. -/
import Derived.Test.YtnjnoabldjodcaaDoorA16
import Derived.ScopeJumps
import Derived.WalkMore
import Derived.StillTailTactics
set_option linter.unusedVariables false
set_option linter.unusedSimpArgs false
namespace Go.Proofs.YtnjnoabldjodcaaDoor.Tok
open Go.RowKit Go.Proofs.YtnjnoabldjodcaaDoorW.PrintWords Go.Proofs.YtnjnoabldjodcaaDoorW.PrintLast Go.Proofs.YtnjnoabldjodcaaDoorW.PrintMore Go.Proofs.YtnjnoabldjodcaaDoor.PFnExactTokens
abbrev AttrRow (w : World) (base : Nat) (v : Value) (al : List A) : Prop := Kd.R k62 62 w base (fun _ => True) v al
theorem attr_ne {w : World} {base : Nat} {v : Value} {al : List A} (h : AttrRow w base v al) {b T : Nat} {cs : Array Value} (hb : w.heap[b]? = some (.cells cs T (0, 0))) (hT : T ≠ 62) : some b ≠ v.ownBlock := Kd.R_ne h hb (Ne.symm hT)
theorem attr_turned {w w1 : World} {base : Nat} {v : Value} {al : List A} {b T : Nat} {cs : Array Value} (h : AttrRow w base v al) (hb : w.heap[b]? = some (.cells cs T (0, 0))) (hT : T ≠ 62) (ht : Turned (fun k => k = b) w w1) : AttrRow w1 base v al :=
  Kd.R_mono (Kd.R_step (Kd.R_types h hb (fun q hq e => by
    rcases List.mem_cons.1 hq with e2 | hq
    · exact hT (by rw [← e, e2])
    · exact absurd hq (by simp [k62, Kd.iso, Kd.pair, Kd.string, Kd.scalar]))) (fun k hk hlt => ht.block k hlt hk.2)) (fun _ _ => trivial)
structure TagSt (w wc : World) (b rb tb : Nat) (s : ByteArray) (j : Nat) (x2 x3 x4 : Value) (kind : Int) (nm : ByteArray) (v2 : Value) (al : List A) (cl : Bool) : Prop where
  sc : Sc wc b s j x2 x3 x4
  res : wc.heap[rb]? = some (.cells #[.int .i64 0, .string ⟨#[]⟩, .slice none 0 0, .string ⟨#[]⟩, .bool false] 36 (0, 0))
  var : wc.heap[tb]? = some (.cells #[.int .i64 kind, .string nm, v2, .string ⟨#[]⟩, .bool cl] 36 (0, 0))
  row : AttrRow wc w.heap.size v2 al
  turned : Turned (fun k => k = b) w wc
  rn : w.heap.size ≤ rb
  an : w.heap.size ≤ tb
  ne : rb ≠ tb
  bl : b < w.heap.size
def tagFrame (b rb tb : Nat) (kind : Int) (u : Nat → Value) : Act := ⟨#[.pointer (some ⟨b, 0, none⟩), .int .i64 kind, undef, undef, .pointer (some ⟨rb, 0, none⟩), .bool false, .pointer (some ⟨tb, 0, none⟩), u 7, u 8, u 9, u 10, u 11, u 12, u 13, u 14, u 15, u 16, u 17, u 18, u 19, u 20, u 21, u 22, u 23, u 24, u 25, u 26, u 27, u 28, u 29, u 30, u 31, u 32, u 33, u 34, u 35, u 36, u 37, u 38, u 39, u 40, u 41, u 42, u 43, u 44, u 45, u 46, u 47, u 48, u 49, u 50, u 51, u 52, u 53, u 54, u 55, u 56, u 57, u 58, u 59, u 60, u 61, u 62, u 63, u 64, u 65, u 66, u 67, u 68, u 69, u 70, u 71, u 72, u 73, u 74, u 75, u 76, u 77, u 78, u 79, u 80, u 81, u 82, u 83, u 84, u 85, u 86, u 87, u 88, u 89, u 90, u 91, u 92, u 93, u 94, u 95, u 96, u 97, u 98, u 99, u 100, u 101, u 102, u 103, u 104, u 105, u 106, u 107, u 108], []⟩
def placeOf (b : Nat) (w : World) : Nat := match w.cell? ⟨b, 1, none⟩ with | some (.int _ n) => n.toNat | _ => 0
theorem Sc.place {w : World} {b : Nat} {s : ByteArray} {i : Nat} {x2 x3 x4 : Value} (h : Sc w b s i x2 x3 x4) : placeOf b w = i := by unfold placeOf; rw [h.c1]; simp
def TagJ (w : World) (b : Nat) (s : ByteArray) (x2 x3 x4 : Value) (kind : Int) (nm : ByteArray) (R : List A × Bool × Option Nat) (a : Act) (wc : World) : Prop :=
  ∃ rb tb, a = tagFrame b rb tb kind (fun k => a.tmps.getD k undef) ∧ ∃ (j f : Nat) (v2 : Value) (al : List A) (cl : Bool), TagSt w wc b rb tb s j x2 x3 x4 kind nm v2 al cl ∧ tagI (B s) f j al cl = R ∧ s.size < j + f ∧ j ≤ s.size ∧ al.length ≤ j
def TagPost (w : World) (b : Nat) (s : ByteArray) (x2 x3 x4 : Value) (kind : Int) (nm : ByteArray) (R : List A × Bool × Option Nat) (e : Ending) (w' : World) : Prop :=
  ∃ (v2 : Value) (al : List A) (cl : Bool), AttrRow w' w.heap.size v2 al ∧ Turned (fun k => k = b) w w' ∧
    (R.2.2 = none → e = .returned (.tuple #[.agg #[.int .i64 kind, .string nm, v2, .string ⟨#[]⟩, .bool cl], .bool false]) ∧ Sc w' b s s.size x2 x3 x4) ∧
    (∀ j, R.2.2 = some j → R = (al, cl, some j) ∧ e = .returned (.tuple #[.agg #[.int .i64 kind, .string nm, v2, .string ⟨#[]⟩, .bool cl], .bool true]) ∧ Sc w' b s j x2 x3 x4)
section
variable {w wc w8 : World} {b rb tb : Nat} {s : ByteArray} {j k : Nat} {x2 x3 x4 : Value} {kind : Int} {nm : ByteArray} {v2 v8 : Value} {al al8 : List A} {cl : Bool}
theorem TagSt.move (h : TagSt w wc b rb tb s j x2 x3 x4 kind nm v2 al cl) (hs : Sc w8 b s k x2 x3 x4) (ht : Turned (fun k => k = b) wc w8) : TagSt w w8 b rb tb s k x2 x3 x4 kind nm v2 al cl :=
  ⟨hs, (ht.block rb (blk_lt h.res) (by have := h.rn; have := h.bl; omega)).trans h.res, (ht.block tb (blk_lt h.var) (by have := h.an; have := h.bl; omega)).trans h.var, attr_turned h.row h.sc (by decide) ht, h.turned.trans ht, h.rn, h.an, h.ne, h.bl⟩
theorem TagSt.at_ (h : TagSt w wc b rb tb s j x2 x3 x4 kind nm v2 al cl) (k : Nat) : TagSt w (wc.setCell ⟨b, 1, none⟩ (.int .i64 k)) b rb tb s k x2 x3 x4 kind nm v2 al cl := h.move (h.sc.at_ k) (Turned.put _ _ _ _)
theorem TagSt.drewN (h : TagSt w wc b rb tb s j x2 x3 x4 kind nm v2 al cl) (m : Nat) : TagSt w (wc.drewN m) b rb tb s j x2 x3 x4 kind nm v2 al cl := h.move (h.sc.drewN m) ((Turned.refl _ _).drewN m)
theorem TagSt.under (h : TagSt w wc b rb tb s j x2 x3 x4 kind nm v2 al cl) (hb : Below wc.heap.size wc w8) : TagSt w w8 b rb tb s j x2 x3 x4 kind nm v2 al cl := h.move ((hb.block b h.sc.lt).trans h.sc) (Turned.of_below hb)
theorem TagSt.put (h : TagSt w wc b rb tb s j x2 x3 x4 kind nm v2 al cl) (o : Nat) (u : Value) {cl' : Bool} {v2' : Value} {al' : List A} (hv : (#[.int .i64 kind, .string nm, v2, .string ⟨#[]⟩, .bool cl] : Array Value).setIfInBounds o u = #[.int .i64 kind, .string nm, v2', .string ⟨#[]⟩, .bool cl'])
    (hr : AttrRow wc w.heap.size v2' al') : TagSt w (wc.setCell ⟨tb, o, none⟩ u) b rb tb s j x2 x3 x4 kind nm v2' al' cl' :=
  ⟨(Below.heap_setCell _ _ _ b (by have := h.an; have := h.bl; show b ≠ tb; omega)).trans h.sc, (Below.heap_setCell _ _ _ rb h.ne).trans h.res, blk_put h.var o u hv,
    attr_turned hr h.var (by decide) (Turned.put _ _ _ _), h.turned.then_ (Turned.put _ _ _ _) (fun k hk e => by have := h.an; omega), h.rn, h.an, h.ne, h.bl⟩
theorem TagSt.grow (h : TagSt w wc b rb tb s j x2 x3 x4 kind nm v2 al cl) (hg : wc.grownBy w8 v2.ownBlock) (hr : AttrRow w8 w.heap.size v8 al8) :
    TagSt w (w8.setCell ⟨tb, 2, none⟩ v8) b rb tb s j x2 x3 x4 kind nm v8 al8 cl := by
  have hbv : ∀ k, v2.ownBlock = some k → w.heap.size ≤ k := fun k hk => by obtain ⟨inner, ho⟩ := Kd.R_own h.row; exact own_base ho k hk
  have n1 : some b ≠ v2.ownBlock := fun e => by have := hbv b e.symm; have := h.bl; omega
  have n2 : some rb ≠ v2.ownBlock := attr_ne h.row h.res (by decide)
  have n3 : some tb ≠ v2.ownBlock := attr_ne h.row h.var (by decide)
  have hv := (hg.block tb (blk_lt h.var) n3).trans h.var
  refine ⟨(Below.heap_setCell _ _ _ b (by have := h.an; have := h.bl; show b ≠ tb; omega)).trans ((hg.block b h.sc.lt n1).trans h.sc), (Below.heap_setCell _ _ _ rb h.ne).trans ((hg.block rb (blk_lt h.res) n2).trans h.res), blk_put hv 2 _ rfl, attr_turned hr hv (by decide) (Turned.put _ _ _ _), ?_, h.rn, h.an, h.ne, h.bl⟩
  exact (h.turned.then_ (Turned.of_grown hg) (fun k hk e => by have := hbv k e.symm; omega)).then_ (Turned.put _ _ _ _) (fun k hk e => by have := h.an; omega)
theorem TagSt.ret (h : TagSt w wc b rb tb s j x2 x3 x4 kind nm v2 al cl) {w9 : World} (h9 : w9 = ((((wc.setCell ⟨rb, 0, none⟩ (.int .i64 kind)).setCell ⟨rb, 1, none⟩ (.string nm)).setCell ⟨rb, 2, none⟩ v2).setCell ⟨rb, 3, none⟩ (.string ⟨#[]⟩)).setCell ⟨rb, 4, none⟩ (.bool cl)) :
    w9.heap[rb]? = some (.cells #[.int .i64 kind, .string nm, v2, .string ⟨#[]⟩, .bool cl] 36 (0, 0)) ∧ Sc w9 b s j x2 x3 x4 ∧ Turned (fun k => k = b) w w9 ∧ AttrRow w9 w.heap.size v2 al := by
  subst h9
  have ht : Turned (fun k => k = rb) wc (((((wc.setCell ⟨rb, 0, none⟩ (.int .i64 kind)).setCell ⟨rb, 1, none⟩ (.string nm)).setCell ⟨rb, 2, none⟩ v2).setCell ⟨rb, 3, none⟩ (.string ⟨#[]⟩)).setCell ⟨rb, 4, none⟩ (.bool cl)) :=
    ((((Turned.put _ _ _ _).trans (Turned.put _ _ _ _)).trans (Turned.put _ _ _ _)).trans (Turned.put _ _ _ _)).trans (Turned.put _ _ _ _)
  exact ⟨blk_put (blk_put (blk_put (blk_put (blk_put h.res 0 _ rfl) 1 _ rfl) 2 _ rfl) 3 _ rfl) 4 _ rfl, (ht.block b h.sc.lt (by have := h.rn; have := h.bl; omega)).trans h.sc, h.turned.then_ ht (fun k hk e => by have := h.rn; omega), attr_turned h.row h.res (by decide) ht⟩
end
theorem token_size : (Tryd.prog.info? 36).map (·.size) = some 5 := by kernel_rfl
theorem attr_cases {s : ByteArray} (hs : s.size < 2 ^ 40) {b o f : Nat} (ho : o < s.size) {x2 x3 x4 : Value} {w : World} (hb : Sc w b s o x2 x3 x4) (hR : Refs w) (h0 : b ≠ 0) {al : List A} {cl : Bool} {R : List A × Bool × Option Nat}
    (ht : (if pre [61] ((B s).drop (ov (B s) (un (B s) [47, 62, 61] (o + 1)))) = true then
        match valueI (B s) (ov (B s) (ov (B s) (un (B s) [47, 62, 61] (o + 1)) + 1)) with
        | none => (al, cl, none)
        | some (v, j) => tagI (B s) f j (addA al ⟨S (low (part (B s) o (un (B s) [47, 62, 61] (o + 1)))), S v⟩) cl
      else tagI (B s) f (ov (B s) (un (B s) [47, 62, 61] (o + 1))) (addA al ⟨S (low (part (B s) o (un (B s) [47, 62, 61] (o + 1)))), S []⟩) cl) = R) :
    (∃ (n v : ByteArray) (k : Nat), o < k ∧ k ≤ s.size ∧ tagI (B s) f k (addA al ⟨n, v⟩) cl = R ∧ Calls Tryd.prog 68 #[.pointer (some ⟨b, 0, none⟩)] w fun e w' => e = .returned (.tuple #[.agg #[.string n, .string v], .bool true]) ∧ Sc w' b s k x2 x3 x4 ∧ Turned (fun k => k = b) w w') ∨
    (∃ (n v : ByteArray), R = (al, cl, none) ∧ Calls Tryd.prog 68 #[.pointer (some ⟨b, 0, none⟩)] w fun e w' => e = .returned (.tuple #[.agg #[.string n, .string v], .bool false]) ∧ Sc w' b s s.size x2 x3 x4 ∧ Turned (fun k => k = b) w w') := by
  have hc := attr_calls s hs b o ho x2 x3 x4 w hb hR h0
  have hle : ∀ i, i ≤ s.size → ov (B s) i ≤ s.size := fun i hi => by rw [← B_length]; exact sp_to (by rw [B_length]; exact hi)
  have hun : un (B s) [47, 62, 61] (o + 1) ≤ s.size := by rw [← B_length]; exact sp_to (by rw [B_length]; exact ho)
  have hun2 : o + 1 ≤ un (B s) [47, 62, 61] (o + 1) := Nat.le_add_right _ _
  have hov : ∀ i, i ≤ ov (B s) i := fun i => Nat.le_add_right _ _
  have h1 := hov (un (B s) [47, 62, 61] (o + 1))
  have h1l := hle _ hun
  split at ht
  · rename_i h61
    have hlt : ov (B s) (un (B s) [47, 62, 61] (o + 1)) < s.size := by
      have := pre_length h61
      rw [List.length_drop, B_length] at this
      simp at this
      omega
    split at ht
    · rename_i hv
      exact .inr ⟨_, _, ht.symm, hc.mono fun e w' h => (h.2 h61).1 hv⟩
    · rename_i v k hv
      have hvl := valueI_le hv
      rw [B_length] at hvl
      have := hov (ov (B s) (un (B s) [47, 62, 61] (o + 1)) + 1)
      exact .inl ⟨_, _, k, by omega, hvl.2, ht, hc.mono fun e w' h => (h.2 h61).2 v k hv⟩
  · rename_i h61
    exact .inl ⟨_, _, _, by omega, h1l, ht, hc.mono fun e w' h => h.1 (by simpa using h61)⟩
def scopeIn : Code → Option Code
  | .scope c => some c
  | .seq a b => match scopeIn a with
    | some c => some c
    | none => scopeIn b
  | _ => none
noncomputable def tagX : Code := match findLabel (((Tryd.f43.body).bind scopeIn).getD .skip) 0 with | some (.seq _ x) => x | _ => .skip
set_option maxHeartbeats 16000000 in
set_option maxRecDepth 1000000 in
theorem tag_pass (s : ByteArray) (hs : s.size < 2 ^ 40) (b : Nat) (x2 x3 x4 : Value) (w : World) (hR : Refs w) (h0 : b ≠ 0) (kind : Int) (nm : ByteArray) (R : List A × Bool × Option Nat) (a : Act) (wc : World) (hJ : TagJ w b s x2 x3 x4 kind nm R a wc) :
    Code.wp Tryd.prog tagX (Exit.jump 0 (fun a' w' => TagJ w b s x2 x3 x4 kind nm R a' w' ∧ placeOf b wc < placeOf b w') (bodyPost Tryd.prog Tryd.f43 (TagPost w b s x2 x3 x4 kind nm R))) a wc := by
  have hut := Tryd.underlying36
  have hud := Tryd.underlying62
  have HS := Aside0.mk hs
  have HR := Aside0.mk hR
  have H0 := Aside0.mk h0
  obtain ⟨rb, tb, ha, j, f, v2, al, cl, hst, hti, hfu, hjs, hal⟩ := hJ
  have hpl : placeOf b wc = j := hst.sc.place
  rw [hpl]
  obtain ⟨o, ho⟩ : ∃ o, o = ov (B s) j := ⟨_, rfl⟩
  have HO := Aside0.mk (show o ≤ s.size by rw [ho, ← B_length]; exact sp_to (by rw [B_length]; exact hjs))
  have HJO := Aside0.mk (show j ≤ o by rw [ho]; exact Nat.le_add_right _ _)
  have HWH := Aside0.mk (white_calls s hs b j hjs x2 x3 x4 wc hst.sc)
  obtain ⟨f, rfl⟩ : ∃ g, f = g + 1 := ⟨f - 1, by omega⟩
  simp only [tagI] at hti
  rw [← ho] at hti HWH
  have HTI := Aside0.mk hti
  have HF := Aside0.mk hfu
  have HAL := Aside0.mk hal
  have HST := Aside0.mk hst
  generalize (fun k => a.tmps.getD k undef) = u at ha
  subst ha
  clear hs hR h0 hpl ho hti hfu hjs hal hst
  obtain ⟨Q, hQ⟩ : ∃ Q, Q = Exit.jump 0 (fun a' w' => TagJ w b s x2 x3 x4 kind nm R a' w' ∧ j < placeOf b w') (bodyPost Tryd.prog Tryd.f43 (TagPost w b s x2 x3 x4 kind nm R)) := ⟨_, rfl⟩
  rw [← hQ]
  have HQ := Aside0.mk hQ
  clear hQ
  conv => arg 2; whnf
  delta tagFrame
  dsimp only
  obtain ⟨A2, c2, hv2⟩ := Kd.R_slice HST.out.row
  subst hv2
  go_upto_region 3 with ((go_at_call 67; refine HWH.out.mono ?_; rintro e w1 ⟨rfl, hc, ht⟩; have HST1 := Aside0.mk (HST.out.move hc ht); clear hc ht))
  clear HWH HST
  have c0 := HST1.out.sc.c0
  have c1 := HST1.out.sc.c1
  have f1 := HST1.out.sc.f1
  by_cases hj : o < s.size
  · have hdj : (o == s.size) = false := by rw [beq_eq_false_iff_ne]; omega
    have hdi : ((o : Int) == (s.size : Int)) = false := by rw [beq_eq_false_iff_ne]; omega
    have hjj : (o : Int) < (s.size : Int) := by omega
    have hx := bt_at s (o : Int)
    rw [Int.toNat_natCast] at hx
    have HOL := Aside0.mk hj
    have hti := HTI.out
    rw [B_get s o hj] at hti
    simp only at hti
    obtain ⟨big, hbig⟩ : ∃ big : Int, big = 1099511627776 := ⟨_, rfl⟩
    have HBIG := Aside0.mk (show (o : Int) < big ∧ big ≤ 4611686018427387904 by have := HS.out; omega)
    clear hbig hj HTI
    rcases h62 : (bt s (o : Int) == 62) with _ | _
    · have hn62 : ¬ bt s (o : Int) = 62 := beq_eq_false_iff_ne.1 h62
      rw [if_neg hn62] at hti
      clear hn62
      rcases h47 : (bt s (o : Int) == 47) with _ | _
      · have hn47 : ¬ bt s (o : Int) = 47 := beq_eq_false_iff_ne.1 h47
        rw [if_neg hn47] at hti
        clear hn47
        have HTI := Aside0.mk hti
        clear hti
        go_quiet (fail)
        go_wp2
        go_quiet (fail)
        generalize hw2 : World.drewN _ _ = w2
        have HST2 := Aside0.mk (show TagSt w w2 b rb tb s o x2 x3 x4 kind nm (.slice A2 al.length c2) al cl by rw [← hw2]; exact (HST1.out.drewN _).drewN _)
        clear c0 c1 f1 hw2 hdj hdi hjj hx HST1
        have HR2 := Aside0.mk (HR.out.turned HST2.out.turned (fun e => H0.out e.symm))
        rcases attr_cases HS.out HOL.out HST2.out.sc HR2.out H0.out HTI.out with ⟨n, v, k, hok, hks, hta, hcl⟩ | ⟨n, v, hre, hcl⟩
        · have HK := Aside0.mk (And.intro hok (And.intro hks hta))
          have HCL := Aside0.mk hcl
          clear hok hks hta hcl HTI
          go_upto_region 16 with ((go_at_call 68; refine HCL.out.mono ?_; rintro e w3 ⟨rfl, hc, ht⟩; have HST3 := Aside0.mk (HST2.out.move hc ht); clear hc ht))
          generalize hw4 : World.alloc _ _ = w4
          have HST4 := Aside0.mk (show TagSt w w4 b rb tb s k x2 x3 x4 kind nm (.slice A2 al.length c2) al cl by rw [← hw4]; exact HST3.out.under (below_one _ _))
          have HQA := Aside0.mk (show w4.heap[w3.heap.size]? = some (.cells #[.string n, .string v] 62 (0, 0)) by rw [← hw4]; exact heap_alloc_new _ _)
          have HQN := Aside0.mk (show w.heap.size ≤ w3.heap.size from HST3.out.turned.size)
          have HQV := Aside0.mk (show tb < w3.heap.size from blk_lt HST3.out.var)
          generalize w3.heap.size = qa at HQA HQN HQV ⊢
          clear hw4 HST3 HCL HST2 HR2 h62 h47
          have v2_ := blk_cell HST4.out.var 2
          have HCC := Aside0.mk (show Kd.C k62 w4 A2 al.length al by
            obtain ⟨A', c', he, _, hr⟩ := Kd.R_reads HST4.out.row
            injection he with h1 h2 h3
            subst h1
            exact hr)
          have HX := Aside0.mk (contains_calls al A2 c2 w4 HCC.out (by have := HAL.out; have := HJO.out; have := HOL.out; have := HS.out; omega) n qa (blk_cell HQA.out 0))
          have HAD := Aside0.mk (show addA al ⟨n, v⟩ = if hasA al n then al else al ++ [⟨n, v⟩] from rfl)
          rcases hh : hasA al n with _ | _
          · rw [hh] at HX HAD
            clear hh
            go_upto_region 17 with ((go_at_call 69; refine HX.out.mono ?_; rintro e w5 ⟨rfl, hb5⟩; have HST5 := Aside0.mk (HST4.out.under hb5); have HQA5 := Aside0.mk ((hb5.block qa (blk_lt HQA.out)).trans HQA.out); have v5 := blk_cell HST5.out.var 2; have q5 := blk_cell HQA5.out 0; have q6 := blk_cell HQA5.out 1; clear hb5))
            have HLL := Aside0.mk (show al.length < 2 ^ 40 by have := HAL.out; have := HJO.out; have := HOL.out; have := HS.out; omega)
            go_wp2_with (((with_reducible refine gate_builtin (b := .append) (xs := #[.tmp 104, .tmp 106]) rfl ?_); at_builtin; refine Kd.R_append k62 (w0 := w5) w.heap.size rfl (.tmp 104) (.tmp 106) 34 62 (.agg #[.string ⟨#[]⟩, .string ⟨#[]⟩]) 32 rfl Tryd.underlying34 info62 rfl (by decide) (by omega) (.slice A2 al.length c2) al (⟨n, v⟩ : A) [.string n, .string v] (fun _ => True) (fun _ => False) rfl rfl (k62_mkM _ _ _ (⟨n, v⟩ : A)) (fun _ hk => hk.elim) (fun _ _ => trivial) HST5.out.row (Below.refl _ _) HST5.out.turned.size (by have := HLL.out; omega) ?_; intro v8 w8 hr8 hb8 hg8 hm8; have n3 : some tb ≠ (Value.slice A2 al.length c2).ownBlock := attr_ne HST5.out.row HST5.out.var (by decide); have hq8 := (hg8.block tb (blk_lt HST5.out.var) n3).trans HST5.out.var; have t2 : w8.cell? ⟨tb, 2, none⟩ = some (.slice A2 al.length c2) := blk_cell hq8 2; have tf2 := blk_frozen hq8 2; obtain ⟨A8, c8, e8⟩ := Kd.R_slice hr8; subst e8; generalize hn8 : (al ++ [(⟨n, v⟩ : A)]).length = n8 at hr8; have HST8 := Aside0.mk (HST5.out.grow hg8 hr8); clear hb8 hg8 hr8 hm8 n3 hq8 hn8))
            go_step3
            rw [HQ.out]
            simp only [Exit.jump]
            refine ⟨trivial, ⟨rb, tb, rfl, k, f, _, al ++ [⟨n, v⟩], cl, HST8.out, ?_, ?_, HK.out.2.1, ?_⟩, ?_⟩
            · have h := HK.out.2.2; rw [HAD.out] at h; exact h
            · have := HF.out; have := HJO.out; have := HK.out.1; omega
            · have := HAL.out; have := HJO.out; have := HK.out.1; simp; omega
            · rw [HST8.out.sc.place]; have := HJO.out; have := HK.out.1; omega
          · rw [hh] at HX HAD
            clear hh
            go_wp2_with ((go_at_call 69; refine HX.out.mono ?_; rintro e w5 ⟨rfl, hb5⟩; have HST5 := Aside0.mk (HST4.out.under hb5); clear hb5))
            go_step3
            rw [HQ.out]
            simp only [Exit.jump]
            refine ⟨trivial, ⟨rb, tb, rfl, k, f, _, al, cl, HST5.out, ?_, ?_, HK.out.2.1, ?_⟩, ?_⟩
            · have h := HK.out.2.2; rw [HAD.out] at h; exact h
            · have := HF.out; have := HJO.out; have := HK.out.1; omega
            · have := HAL.out; have := HJO.out; have := HK.out.1; omega
            · rw [HST5.out.sc.place]; have := HJO.out; have := HK.out.1; omega
        · have HRE := Aside0.mk hre
          have HCL := Aside0.mk hcl
          clear hre hcl HTI
          go_upto_region 14 with ((go_at_call 68; refine HCL.out.mono ?_; rintro e w3 ⟨rfl, hc, ht⟩; have HST3 := Aside0.mk (HST2.out.move hc ht); clear hc ht))
          generalize hw4 : World.alloc _ _ = w4
          have HST4 := Aside0.mk (show TagSt w w4 b rb tb s s.size x2 x3 x4 kind nm (.slice A2 al.length c2) al cl by rw [← hw4]; exact HST3.out.under (below_one _ _))
          clear hw4 HST3 HCL HST2 HR2 h62 h47
          have c0 := HST4.out.sc.c0
          have c1 := HST4.out.sc.c1
          have f1 := HST4.out.sc.f1
          go_upto_region 15 with (fail)
          generalize hw5 : World.setCell _ _ _ = w5
          have HST5 := Aside0.mk (show TagSt w w5 b rb tb s s.size x2 x3 x4 kind nm (.slice A2 al.length c2) al cl by rw [← hw5]; exact HST4.out.at_ s.size)
          clear hw5 HST4 c0 c1 f1
          have v0 := blk_cell HST5.out.var 0
          have v1 := blk_cell HST5.out.var 1
          have v2_ := blk_cell HST5.out.var 2
          have v3 := blk_cell HST5.out.var 3
          have v4 := blk_cell HST5.out.var 4
          have r0 := blk_cell HST5.out.res 0
          have r1 := blk_cell HST5.out.res 1
          have r2 := blk_cell HST5.out.res 2
          have r3 := blk_cell HST5.out.res 3
          have r4 := blk_cell HST5.out.res 4
          have g0 := blk_frozen HST5.out.res 0
          have g1 := blk_frozen HST5.out.res 1
          have g2 := blk_frozen HST5.out.res 2
          have g3 := blk_frozen HST5.out.res 3
          have g4 := blk_frozen HST5.out.res 4
          go_wp2
          rw [HQ.out]
          simp only [Exit.jump]
          have HF9 := HST5.out.ret (w9 := ((((w5.setCell ⟨rb, 0, none⟩ (.int .i64 kind)).setCell ⟨rb, 1, none⟩ (.string nm)).setCell ⟨rb, 2, none⟩ (.slice A2 al.length c2)).setCell ⟨rb, 3, none⟩ (.string ⟨#[]⟩)).setCell ⟨rb, 4, none⟩ (.bool cl)) rfl
          refine bodyPost_ret (v := .tuple #[.agg #[.int .i64 kind, .string nm, .slice A2 al.length c2, .string ⟨#[]⟩, .bool cl], .bool false]) (results_list (rs := [.cell 4 36, .tmp 5]) (vs := [.agg #[.int .i64 kind, .string nm, .slice A2 al.length c2, .string ⟨#[]⟩, .bool cl], .bool false]) rfl (by simp) (.cell rb 36 #[.int .i64 kind, .string nm, .slice A2 al.length c2, .string ⟨#[]⟩, .bool cl] (0, 0) _ rfl HF9.1 hut rfl token_size (.tmp .nil))) rfl ?_
          exact ⟨.slice A2 al.length c2, al, cl, HF9.2.2.2, HF9.2.2.1, fun _ => ⟨rfl, HF9.2.1⟩, fun j hj => by rw [HRE.out] at hj; cases hj⟩
      · have hti2 := (if_pos (beq_iff_eq.1 h47)).symm.trans hti
        have HTI := Aside0.mk hti2
        clear hti hti2
        go_quiet (fail)
        go_wp2
        go_quiet (fail)
        generalize hw2 : World.drewN _ _ = w2
        have HST2 := Aside0.mk (show TagSt w w2 b rb tb s o x2 x3 x4 kind nm (.slice A2 al.length c2) al cl by rw [← hw2]; exact (HST1.out.drewN _).drewN _)
        clear c0 c1 f1 hw2 hdj hdi hjj hx HST1
        have c1 := HST2.out.sc.c1
        have f1 := HST2.out.sc.f1
        have hbg := HBIG.out.1
        have hbg2 := HBIG.out.2
        go_upto_region 11 with (fail)
        generalize hw3 : World.setCell _ _ _ = w3
        have HST3 := Aside0.mk (show TagSt w w3 b rb tb s (o + 1) x2 x3 x4 kind nm (.slice A2 al.length c2) al cl by rw [← hw3]; exact HST2.out.at_ (o + 1))
        clear c1 f1 hw3 HST2 hbg hbg2
        have c0 := HST3.out.sc.c0
        have c1 := HST3.out.sc.c1
        have v4 := blk_cell HST3.out.var 4
        have g4 := blk_frozen HST3.out.var 4
        obtain ⟨o1, ho1⟩ : ∃ o1, o1 = o + 1 := ⟨_, rfl⟩
        have ho1i : ((o : Int) + 1) = ((o1 : Nat) : Int) := by omega
        rw [← ho1] at c1 HTI HST3
        simp only [ho1i]
        have HO1 := Aside0.mk ho1
        clear ho1 ho1i h62 h47
        have fin : ∀ (q : Bool), (cl || pre [62] ((B s).drop o1)) = q → ∀ a' w', w' = w3.setCell ⟨tb, 4, none⟩ (.bool q) ∨ w' = (w3.setCell ⟨tb, 4, none⟩ (.bool q)).drew ∨ (∃ n, w' = (w3.setCell ⟨tb, 4, none⟩ (.bool q)).drewN n) ∨ (∃ n, w' = (w3.drewN n).setCell ⟨tb, 4, none⟩ (.bool q)) ∨ w' = w3.drew.setCell ⟨tb, 4, none⟩ (.bool q) →
            a' = tagFrame b rb tb kind (fun k => a'.tmps.getD k undef) → (Exit.jump 0 (fun a' w' => TagJ w b s x2 x3 x4 kind nm R a' w' ∧ j < placeOf b w') (bodyPost Tryd.prog Tryd.f43 (TagPost w b s x2 x3 x4 kind nm R))) (.goto 0) a' w' := by
          intro q hq a' w' hw ha
          simp only [Exit.jump]
          have hst : TagSt w w' b rb tb s o1 x2 x3 x4 kind nm (.slice A2 al.length c2) al q := by
            rcases hw with rfl | rfl | ⟨n, rfl⟩ | ⟨n, rfl⟩ | rfl
            · exact HST3.out.put 4 _ rfl HST3.out.row
            · exact (HST3.out.put 4 _ rfl HST3.out.row).drewN 1
            · exact (HST3.out.put 4 _ rfl HST3.out.row).drewN n
            · exact (HST3.out.drewN n).put 4 _ rfl (HST3.out.drewN n).row
            · exact (HST3.out.drewN 1).put 4 _ rfl (HST3.out.drewN 1).row
          refine ⟨trivial, ⟨rb, tb, ha, o1, f, _, al, q, hst, by rw [← hq]; exact HTI.out, ?_, ?_, ?_⟩, ?_⟩
          · have := HF.out; have := HJO.out; have := HO1.out; omega
          · have := HOL.out; have := HO1.out; omega
          · have := HAL.out; have := HJO.out; have := HO1.out; omega
          · rw [hst.sc.place]; have := HJO.out; have := HO1.out; omega
        have FIN := Aside0.mk fin
        clear fin HTI
        have tailEnd : True := trivial
        cases cl with
        | true =>
          have HQV := Aside0.mk (show (true || pre [62] ((B s).drop o1)) = true from rfl)
          go_region
          all_goals
            go_wp2
            go_step3
            rw [HQ.out]
            exact FIN.out true HQV.out _ _ (by exact .inr (.inl rfl)) rfl
        | false =>
          by_cases hl1 : o1 < s.size
          · have hdl : decide (o1 < s.size) = true := decide_eq_true hl1
            have hdl2 : decide ((o1 : Int) < (s.size : Int)) = true := decide_eq_true (by omega)
            have hl1i : (o1 : Int) < (s.size : Int) := by omega
            have hx := bt_at s (o1 : Int)
            rw [Int.toNat_natCast] at hx
            have HQV := Aside0.mk (show (false || pre [62] ((B s).drop o1)) = (bt s (o1 : Int) == 62) by rw [Bool.false_or, pre_cons, pre_nil, B_get s o1 hl1, Bool.and_true, Bool.eq_iff_iff]; simp)
            clear hl1
            go_region
            all_goals
              go_wp2
              go_step3
              rw [HQ.out]
              exact FIN.out _ HQV.out _ _ (by exact .inr (.inl rfl)) rfl
          · have hdl : decide (o1 < s.size) = false := decide_eq_false hl1
            have hdl2 : decide ((o1 : Int) < (s.size : Int)) = false := decide_eq_false (by omega)
            have HQV := Aside0.mk (show (false || pre [62] ((B s).drop o1)) = false by rw [Bool.false_or, List.drop_eq_nil_of_le (by rw [B_length]; omega)]; rfl)
            clear hl1
            go_region
            all_goals
              go_wp2
              go_step3
              rw [HQ.out]
              exact FIN.out _ HQV.out _ _ (by exact .inr (.inl rfl)) rfl
    · have hti2 := (if_pos (beq_iff_eq.1 h62)).symm.trans hti
      have HTI := Aside0.mk hti2
      clear hti hti2
      go_quiet (fail)
      go_wp2
      go_quiet (fail)
      generalize hw2 : World.drewN _ _ = w2
      have HST2 := Aside0.mk (show TagSt w w2 b rb tb s o x2 x3 x4 kind nm (.slice A2 al.length c2) al cl by rw [← hw2]; exact (HST1.out.drewN _).drewN _)
      clear c0 c1 f1 hw2 hdj hdi hjj hx HST1
      have c1 := HST2.out.sc.c1
      have f1 := HST2.out.sc.f1
      have hbg := HBIG.out.1
      have hbg2 := HBIG.out.2
      go_upto_region 8 with (fail)
      generalize hw3 : World.setCell _ _ _ = w3
      have HST3 := Aside0.mk (show TagSt w w3 b rb tb s (o + 1) x2 x3 x4 kind nm (.slice A2 al.length c2) al cl by rw [← hw3]; exact HST2.out.at_ (o + 1))
      clear c1 f1 hw3 HST2 hbg hbg2
      have v0 := blk_cell HST3.out.var 0
      have v1 := blk_cell HST3.out.var 1
      have v2_ := blk_cell HST3.out.var 2
      have v3 := blk_cell HST3.out.var 3
      have v4 := blk_cell HST3.out.var 4
      have r0 := blk_cell HST3.out.res 0
      have r1 := blk_cell HST3.out.res 1
      have r2 := blk_cell HST3.out.res 2
      have r3 := blk_cell HST3.out.res 3
      have r4 := blk_cell HST3.out.res 4
      have g0 := blk_frozen HST3.out.res 0
      have g1 := blk_frozen HST3.out.res 1
      have g2 := blk_frozen HST3.out.res 2
      have g3 := blk_frozen HST3.out.res 3
      have g4 := blk_frozen HST3.out.res 4
      go_wp2
      rw [HQ.out]
      simp only [Exit.jump]
      have HF9 := HST3.out.ret (w9 := ((((w3.setCell ⟨rb, 0, none⟩ (.int .i64 kind)).setCell ⟨rb, 1, none⟩ (.string nm)).setCell ⟨rb, 2, none⟩ (.slice A2 al.length c2)).setCell ⟨rb, 3, none⟩ (.string ⟨#[]⟩)).setCell ⟨rb, 4, none⟩ (.bool cl)) rfl
      refine bodyPost_ret (v := .tuple #[.agg #[.int .i64 kind, .string nm, .slice A2 al.length c2, .string ⟨#[]⟩, .bool cl], .bool true]) (results_list (rs := [.cell 4 36, .tmp 5]) (vs := [.agg #[.int .i64 kind, .string nm, .slice A2 al.length c2, .string ⟨#[]⟩, .bool cl], .bool true]) rfl (by simp) (.cell rb 36 #[.int .i64 kind, .string nm, .slice A2 al.length c2, .string ⟨#[]⟩, .bool cl] (0, 0) _ rfl HF9.1 hut rfl token_size (.tmp .nil))) rfl ?_
      exact ⟨.slice A2 al.length c2, al, cl, HF9.2.2.2, HF9.2.2.1, (fun h => by rw [← HTI.out] at h; cases h), fun j hj => by rw [← HTI.out] at hj; injection hj with hj; subst hj; exact ⟨HTI.out.symm, rfl, HF9.2.1⟩⟩
  · have hdj : (o == s.size) = true := by rw [beq_iff_eq]; have := HO.out; omega
    have hdi : ((o : Int) == (s.size : Int)) = true := by rw [beq_iff_eq]; have := HO.out; omega
    have HRE := Aside0.mk (show (al, cl, (none : Option Nat)) = R by have h := HTI.out; rw [List.getElem?_eq_none (by rw [B_length]; omega)] at h; exact h)
    have HOE := Aside0.mk (show o = s.size by have := HO.out; omega)
    clear hj HTI
    go_quiet (fail)
    have v0 := blk_cell HST1.out.var 0
    have v1 := blk_cell HST1.out.var 1
    have v2_ := blk_cell HST1.out.var 2
    have v3 := blk_cell HST1.out.var 3
    have v4 := blk_cell HST1.out.var 4
    have r0 := blk_cell HST1.out.res 0
    have r1 := blk_cell HST1.out.res 1
    have r2 := blk_cell HST1.out.res 2
    have r3 := blk_cell HST1.out.res 3
    have r4 := blk_cell HST1.out.res 4
    have g0 := blk_frozen HST1.out.res 0
    have g1 := blk_frozen HST1.out.res 1
    have g2 := blk_frozen HST1.out.res 2
    have g3 := blk_frozen HST1.out.res 3
    have g4 := blk_frozen HST1.out.res 4
    go_wp2
    rw [HQ.out]
    simp only [Exit.jump]
    have HF9 := (HST1.out.drewN nq).ret (w9 := (((((w1.drewN nq).setCell ⟨rb, 0, none⟩ (.int .i64 kind)).setCell ⟨rb, 1, none⟩ (.string nm)).setCell ⟨rb, 2, none⟩ (.slice A2 al.length c2)).setCell ⟨rb, 3, none⟩ (.string ⟨#[]⟩)).setCell ⟨rb, 4, none⟩ (.bool cl)) rfl
    refine bodyPost_ret (v := .tuple #[.agg #[.int .i64 kind, .string nm, .slice A2 al.length c2, .string ⟨#[]⟩, .bool cl], .bool false]) (results_list (rs := [.cell 4 36, .tmp 5]) (vs := [.agg #[.int .i64 kind, .string nm, .slice A2 al.length c2, .string ⟨#[]⟩, .bool cl], .bool false]) rfl (by simp) (.cell rb 36 #[.int .i64 kind, .string nm, .slice A2 al.length c2, .string ⟨#[]⟩, .bool cl] (0, 0) _ rfl HF9.1 hut rfl token_size (.tmp .nil))) rfl ?_
    exact ⟨.slice A2 al.length c2, al, cl, HF9.2.2.2, HF9.2.2.1, fun _ => ⟨rfl, by rw [← HOE.out]; exact HF9.2.1⟩, fun j hj => by rw [← HRE.out] at hj; cases hj⟩
end Go.Proofs.YtnjnoabldjodcaaDoor.Tok
set_option linter.unusedVariables false
set_option linter.unusedSimpArgs false
namespace Go.Proofs.YtnjnoabldjodcaaDoor.Tok
open Go.RowKit Go.Proofs.YtnjnoabldjodcaaDoorW.PrintWords Go.Proofs.YtnjnoabldjodcaaDoorW.PrintLast Go.Proofs.YtnjnoabldjodcaaDoorW.PrintMore Go.Proofs.YtnjnoabldjodcaaDoor.PFnExactTokens
set_option maxHeartbeats 8000000 in
set_option maxRecDepth 1000000 in
theorem tag_calls_i (s : ByteArray) (hs : s.size < 2 ^ 40) (b i : Nat) (hi : i ≤ s.size) (x2 x3 x4 : Value) (w : World) (hb : Sc w b s i x2 x3 x4) (hR : Refs w) (h0 : b ≠ 0) (kind : Int) :
    Calls Tryd.prog 43 #[.pointer (some ⟨b, 0, none⟩), .int .i64 kind] w (TagPost w b s x2 x3 x4 kind (nameOf (B s) i) (tagOf (B s) i)) := by
  have hut := Tryd.underlying36
  have HB := Aside0.mk hb
  have HS := Aside0.mk hs
  have HI := Aside0.mk hi
  obtain ⟨R, hR_⟩ : ∃ R, R = tagOf (B s) i := ⟨_, rfl⟩
  obtain ⟨nm, hnm⟩ : ∃ nm, nm = nameOf (B s) i := ⟨_, rfl⟩
  rw [← hR_, ← hnm]
  have HRR := Aside0.mk hR_
  have HPASS := Aside0.mk (fun a wc (hJ : TagJ w b s x2 x3 x4 kind nm R a wc) => tag_pass s hs b x2 x3 x4 w hR h0 kind nm R a wc hJ)
  have HNM := Aside0.mk hnm
  clear hb hs hi hR h0 hR_ hnm
  go_enter Tryd.func43, Tryd.ntmps43
  go_wp2
  refine wp_scope_jumps 0 (TagJ w b s x2 x3 x4 kind nm R) (fun _ wc => s.size + 1 - placeOf b wc) rfl ?_ ?_
  · have hrb := heap_alloc_new w (.cells #[.int .i64 0, .string ⟨#[]⟩, .slice none 0 0, .string ⟨#[]⟩, .bool false] 36)
    have HC0 := Aside0.mk (show Sc (w.alloc (.cells #[.int .i64 0, .string ⟨#[]⟩, .slice none 0 0, .string ⟨#[]⟩, .bool false] 36)) b s i x2 x3 x4 from (Below.heap_alloc w _ b HB.out.lt).trans HB.out)
    have HT0 := Aside0.mk (show Turned (fun k => k = b) w (w.alloc (.cells #[.int .i64 0, .string ⟨#[]⟩, .slice none 0 0, .string ⟨#[]⟩, .bool false] 36)) from Turned.of_below (below_one _ _))
    have HBL := Aside0.mk HB.out.lt
    generalize hw0 : World.alloc _ _ = w0
    rw [hw0] at hrb HC0 HT0
    generalize hrbe : w.heap.size = rb at hrb HBL ⊢
    have HRBE := Aside0.mk hrbe
    have HRB := Aside0.mk hrb
    clear hw0 hrbe hrb
    have HU := Aside0.mk (until_name s HS.out b i HI.out x2 x3 x4 w0 HC0.out (endsIn [47, 62]) (fun x W _ => ends_name_calls x W))
    obtain ⟨K, hK⟩ : ∃ K, K = un (B s) [47, 62] i := ⟨_, rfl⟩
    rw [show i + sp (fun x => !endsIn [47, 62] x) ((B s).drop i) = K from hK.symm] at HU
    have HKS := Aside0.mk (show K ≤ s.size by rw [hK, ← B_length]; exact sp_to (by rw [B_length]; exact HI.out))
    obtain ⟨nr, hnr⟩ : ∃ nr, nr = S (part (B s) i K) := ⟨_, rfl⟩
    rw [← hnr] at HU
    have HLO := Aside0.mk (fun W => lower_calls nr (by rw [hnr, S_size]; have := part_le (B s) i K; have := HS.out; rw [B_length] at *; omega) W)
    have hlow : S (low (B nr)) = nm := by rw [HNM.out, hnr, B_S (part_byte _ _ _), hK]; rfl
    rw [hlow] at HLO
    have HK := Aside0.mk hK
    clear hK hnr hlow HB
    go_wp2_with (first | (go_at_call 66; refine HU.out.mono ?_; rintro e w2 ⟨rfl, hc, ht⟩; have HC2 := Aside0.mk hc; have HT2 := Aside0.mk (HT0.out.trans ht); have HRB2 := Aside0.mk ((ht.block rb (blk_lt HRB.out) (Nat.ne_of_gt HBL.out)).trans HRB.out); clear hc ht) | (go_at_call 38; refine (HLO.out _).mono ?_; rintro e w3 ⟨rfl, hb3⟩; have HC3 := Aside0.mk (show Sc w3 b s K x2 x3 x4 from (hb3.block b HC2.out.lt).trans HC2.out); have HT3 := Aside0.mk (HT2.out.trans (Turned.of_below hb3)); have HRB3 := Aside0.mk ((hb3.block rb (blk_lt HRB2.out)).trans HRB2.out); clear hb3))
    generalize hw4 : World.alloc _ _ = w4
    obtain ⟨tb, htb⟩ : ∃ tb, tb = w3.heap.size := ⟨_, rfl⟩
    have HST4 := Aside0.mk (show TagSt w w4 b rb tb s K x2 x3 x4 kind nm (.slice none 0 0) [] false from by
      have h1 := HC3.out.lt
      have h2 := blk_lt HRB3.out
      have h3 := HT3.out.size
      rw [htb, ← hw4]
      exact ⟨(Below.heap_alloc w3 _ b h1).trans HC3.out, (Below.heap_alloc w3 _ rb h2).trans HRB3.out, heap_alloc_new _ _, Kd.R_nil _ _ _ _ _, HT3.out.trans (Turned.of_below (below_one _ _)), Nat.le_of_eq HRBE.out, h3, by omega, by rw [HRBE.out]; exact HBL.out⟩)
    rw [← htb]
    have HJ := Aside0.mk (show ∀ a, a = tagFrame b rb tb kind (fun k => a.tmps.getD k undef) → TagJ w b s x2 x3 x4 kind nm R a w4 from fun a ha => ⟨rb, tb, ha, K, s.size + 1, _, [], false, HST4.out, by rw [HRR.out, HK.out]; unfold tagOf; rw [B_length], by omega, HKS.out, by simp⟩)
    refine wp_label ?_
    simp only [Exit.then]
    apply ‹∀ (a : Act) (w : World), Code.wp _ _ _ a w → _›
    refine wp_mono (HPASS.out _ w4 (HJ.out _ rfl)) ?_
    intro e a' w' h
    cases e with
    | goto l => exact ⟨h.1, h.2.1⟩
    | normal => exact h
    | exit id => exact h
    | ret => exact h
    | panic ch => exact h
    | outgrown => exact h
  · intro a wc hJ
    have hj := HPASS.out a wc hJ
    obtain ⟨rb, tb, ha, j, f, v2, al, cl, hst, _, _, hjs, _⟩ := hJ
    have hp := hst.sc.place
    refine wp_seq (wp_skip (wp_mono hj ?_))
    intro e a' w' h
    cases e with
    | goto l => exact ⟨h.1, h.2.1, by have := h.2.2; show s.size + 1 - placeOf b w' < s.size + 1 - placeOf b wc; omega⟩
    | normal => exact h
    | exit id => exact h
    | ret => exact h
    | panic ch => exact h
    | outgrown => exact h
end Go.Proofs.YtnjnoabldjodcaaDoor.Tok
