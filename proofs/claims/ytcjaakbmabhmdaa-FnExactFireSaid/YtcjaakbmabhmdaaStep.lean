/- The handlers at one stop of the way: Fire's three tests, firing.step. -/
import Derived.Test.YtcjaakbmabhmdaaGarden
import Derived.Test.YtcjaakbmabhmdaaIntRows
namespace Go.Proofs.Ytcjaakbmabhmdaa.Impl
open Go.RowKit Go.Proofs.YtcjaakbmabhmdaaW.PrintWords Go.Proofs.YtcjaakbmabhmdaaW.PrintLast Go.Proofs.YtcjaakbmabhmdaaW.PrintMore Go.Proofs.Ytcjaakbmabhmdaa.PFnExactFire Go.Proofs.Ytcjaakbmabhmdaa.MapLib Go.Proofs.Ytcjaakbmabhmdaa.FireSpec Go.Proofs.Ytcjaakbmabhmdaa.Tr
set_option linter.unusedVariables false
set_option linter.unusedSimpArgs false

def handV (h : S53) : Value := .agg #[.int .i64 h.f0, .string h.f1, .bool h.f2, .int .i64 h.f3]
/-- A test of a handler. -/
def Tests (k : Nat) (mode : S53 → Bool) : Prop :=
  ∀ (h : S53) (w : World), Calls Try.prog k #[handV h] w fun e w' => e = .returned (.bool (mode h)) ∧ Below w.heap.size w w'
theorem captures : Tests 29 (fun h => h.f2) := by
  intro h w
  unfold handV
  go_enter Try.func29, Try.ntmps29
  have hu := Try.underlying53
  go_wp2
  go_ret
  exact ⟨rfl, (Below.refl _ _).alloc (Nat.le_refl _) _⟩
theorem always : Tests 30 (fun h => true) := by
  intro h w
  unfold handV
  go_enter Try.func30, Try.ntmps30
  have hu := Try.underlying53
  go_wp2
  go_ret
  exact ⟨rfl, (Below.refl _ _).alloc (Nat.le_refl _) _⟩
theorem bubbles : Tests 31 (fun h => !h.f2) := by
  intro h w
  unfold handV
  go_enter Try.func31, Try.ntmps31
  have hu := Try.underlying53
  go_wp2
  go_ret
  exact ⟨rfl, (Below.refl _ _).alloc (Nat.le_refl _) _⟩

/-- step's loop. -/
def stepL (fits : Hand → Bool) : List Hand → Int → Bool → Bool → List Int × Bool
  | [], _, s, e => ([], s || e)
  | h :: hs, i, s, e => if (s || !fits h) = true then stepL fits hs (i + 1) s e else (i :: (stepL fits hs (i + 1) (h.f3 == 2) (e || h.f3 == 1)).1, (stepL fits hs (i + 1) (h.f3 == 2) (e || h.f3 == 1)).2)
theorem stepL_true (fits : Hand → Bool) : ∀ (hs : List Hand) (i : Int) (e : Bool), stepL fits hs i true e = ([], true)
  | [], _, e => by simp [stepL]
  | h :: hs, i, e => by simp [stepL, stepL_true fits hs]
theorem stepL_false (fits : Hand → Bool) : ∀ (hs : List Hand) (i : Int) (e : Bool), stepL fits hs i false e = stepR fits hs i e
  | [], _, e => by simp [stepL, stepR]
  | h :: hs, i, e => by
    unfold stepL stepR
    by_cases hf : fits h = true
    · by_cases h2 : h.f3 = 2
      · simp [hf, h2, stepL_true]
      · have : (h.f3 == 2) = false := by simpa using h2
        simp [hf, h2, this, stepL_false fits hs]
    · simp [hf, stepL_false fits hs]
structure StepAt (w0 w w' : World) (base fb : Nat) (A : Option Addr) (c : Nat) (hs : List S53) (kind : ByteArray) (ov0 ov : Value) (out : List Int) (stop : Bool) : Prop where
  blk : w'.heap[fb]? = some (.cells #[.string kind, .slice A hs.length c, ov, .bool stop] 64 (0, 0))
  row : Kd.R (Kd.int .i64) 3 w' base (fun _ => True) ov out
  below : Below w0.heap.size w0 w'
  kept : Kept w w' (fun k => k = fb ∨ ov0.ownBlock = some k)
  moved : ov.ownBlock = ov0.ownBlock ∨ ∃ k, ov.ownBlock = some k ∧ w.heap.size ≤ k

section
variable {w0 w wc w1 w8 w9 w10 : World} {base fb : Nat} {A : Option Addr} {c : Nat} {hs : List S53} {kind : ByteArray} {ov0 ov ov8 : Value} {out : List Int} {stop s2 : Bool} {x : Int}
theorem StepAt.step (h : StepAt w0 w wc base fb A c hs kind ov0 ov out stop) (hb : Below wc.heap.size wc w1) (hbw : w.heap.size ≤ wc.heap.size) : StepAt w0 w w1 base fb A c hs kind ov0 ov out stop :=
  ⟨blk_below h.blk hb, Kd.R_below h.row hb, below_step h.below hb, ⟨Nat.le_trans h.kept.1 hb.size, fun k hk hS => (hb.block k (by omega)).trans (h.kept.2 k hk hS)⟩, h.moved⟩
theorem StepAt.next (h : StepAt w0 w wc base fb A c hs kind ov0 ov out stop) (hb0 : w0.heap.size ≤ base) (hfb : base ≤ fb) (r8 : IntRow w8 base ov8 (out ++ [x])) (g8 : wc.grownBy w8 ov.ownBlock)
    (m8 : ov8.ownBlock = ov.ownBlock ∨ ∃ k, ov8.ownBlock = some k ∧ wc.heap.size ≤ k) (h9 : w9 = w8.setCell ⟨fb, 2, none⟩ ov8) (h10 : w10 = w9.setCell ⟨fb, 3, none⟩ (.bool s2)) :
    StepAt w0 w w10 base fb A c hs kind ov0 ov8 (out ++ [x]) s2 := by
  have hb8 := blk_grown h.blk g8 (introw_ne h.row h.blk (by decide))
  obtain ⟨a1, a2, a3, a4⟩ := set_block h9 hb8
  obtain ⟨b1, b2, b3, b4⟩ := set_block h10 a1
  have hsz := h.kept.1
  have hg := g8.size
  refine ⟨b1, introw_keep r8 (fun k hk => ?_), b4 _ _ (a4 _ _ (h.below.grown g8 h.below.size (fun k hk => by have := (introw_base h.row k hk).1; omega)) (by omega)) (by omega), ⟨by omega, fun k hk hS => ?_⟩, ?_⟩
  · have hne : k ≠ fb := fun e => introw_ne r8 hb8 (by decide) (by rw [← e, hk])
    exact (b2 k hne).trans (a2 k hne)
  · have h1 : k ≠ fb := fun e => hS (.inl e)
    have h2 : some k ≠ ov.ownBlock := fun e => by
      rcases h.moved with e' | ⟨k', e', hk'⟩
      · rw [e'] at e; exact hS (.inr e.symm)
      · rw [e'] at e; injection e with e; omega
    exact (b2 k h1).trans ((a2 k h1).trans ((g8.block k (by omega) h2).trans (h.kept.2 k hk hS)))
  · rcases m8 with e | ⟨k, e, hk⟩
    · rw [e]; exact h.moved
    · exact .inr ⟨k, e, by omega⟩
theorem StepAt.ended (h : StepAt w0 w wc base fb A c hs kind ov0 ov out stop) (h10 : w10 = wc.setCell ⟨fb, 3, none⟩ (.bool s2)) (hb0 : w0.heap.size ≤ base) (hfb : base ≤ fb) : StepAt w0 w w10 base fb A c hs kind ov0 ov out s2 := by
  obtain ⟨b1, b2, b3, b4⟩ := set_block h10 h.blk
  have hsz := h.kept.1
  refine ⟨b1, introw_keep h.row (fun k hk => b2 k (fun e => introw_ne h.row h.blk (by decide) (by rw [← e, hk]))), b4 _ _ h.below (by omega), ⟨by omega, fun k hk hS => (b2 k (fun e => hS (.inl e))).trans (h.kept.2 k hk hS)⟩, h.moved⟩
/-- What a round's walk wants to know behind its append. -/
theorem StepAt.behind (h : StepAt w0 w wc base fb A c hs kind ov0 ov out stop) {hbk : Nat} {cs : Array Value} (hh : wc.heap[hbk]? = some (.cells cs 53 (0, 0))) (g8 : wc.grownBy w8 ov.ownBlock) :
    w8.cell? ⟨fb, 2, none⟩ = some ov ∧ w8.frozen? ⟨fb, 2, none⟩ = false ∧ ∀ v w9, w9 = w8.setCell ⟨fb, 2, none⟩ v → w9.heap[hbk]? = some (.cells cs 53 (0, 0)) ∧ w9.cell? ⟨fb, 3, none⟩ = some (.bool stop) ∧ w9.frozen? ⟨fb, 3, none⟩ = false := by
  have hb8 := blk_grown h.blk g8 (introw_ne h.row h.blk (by decide))
  have hh8 := blk_grown hh g8 (introw_ne h.row hh (by decide))
  refine ⟨blk_cell hb8 2, blk_frozen hb8 2, fun v w9 h9 => ?_⟩
  obtain ⟨a1, a2, a3, a4⟩ := set_block h9 hb8
  exact ⟨(a2 hbk (blk_ne hh8 hb8 (by decide))).trans hh8, blk_cell a1 3, blk_frozen a1 3⟩
end
set_option maxHeartbeats 4000000 in
set_option maxRecDepth 100000 in
theorem step_calls (A : Option Addr) (c : Nat) (hs : List S53) (w0 : World) (base fb : Nat) (hin : Kd.C k53 w0 A hs.length hs) (hc : hs.length ≤ c) (hn : hs.length ≤ 1000) (hb0 : w0.heap.size ≤ base) (hfb : base ≤ fb)
    (a : Int) (kind : ByteArray) (kf : Nat) (mode : S53 → Bool) (hkf : kf = 29 ∨ kf = 30 ∨ kf = 31) (hm : Tests kf mode) (out : List Int) (hout : out.length ≤ 1099511627776) (ov : Value) (stop : Bool) (w : World) (hbw : base ≤ w.heap.size) (hS : StepAt w0 w w base fb A c hs kind ov ov out stop) :
    Calls Try.prog 28 #[.pointer (some ⟨fb, 0, none⟩), .int .i64 a, .func (.func kf) #[] #[]] w fun e w' => e = .returned (.tuple #[]) ∧ ∃ ov', StepAt w0 w w' base fb A c hs kind ov ov' (out ++ (stepL (fitsAt a kind mode) hs 0 stop false).1) (stepL (fitsAt a kind mode) hs 0 stop false).2 := by
  have hu := Try.underlying53
  have huf := Try.underlying64
  have HIN := Aside0.mk hin
  have HALL := Aside0.mk (And.intro hc (And.intro hn (And.intro hb0 (And.intro hfb (And.intro hout hbw)))))
  have HMODE := Aside0.mk (show ∀ (h : S53) (w : World), Calls Try.prog kf #[.agg #[.int .i64 h.f0, .string h.f1, .bool h.f2, .int .i64 h.f3]] w fun e w' => e = .returned (.bool (mode h)) ∧ Below w.heap.size w w' from hm)
  have HKF := Aside0.mk hkf
  have HS := Aside0.mk hS
  have hc1 := blk_cell hS.blk 1
  have hn4 : (hs.length : Int) ≤ 1000 := by omega
  clear hin hc hb0 hfb hout hm hS hbw hkf
  go_enter Try.func28, Try.ntmps28
  go_wp2
  clear hc1
  go_loopg [6, 14] (hs.length + 1) (fun kq v6 v14 w' => ∃ (i : Nat) (o2 : List Int) (ov' : Value) (s e : Bool), v6 = .bool e ∧ v14 = .int .i64 i ∧ Aside0 (i + kq = hs.length + 1 ∧ i ≤ hs.length ∧ o2.length ≤ i ∧ stepL (fitsAt a kind mode) hs 0 stop false = (o2 ++ (stepL (fitsAt a kind mode) (hs.drop i) i s e).1, (stepL (fitsAt a kind mode) (hs.drop i) i s e).2)) ∧ Aside0 (StepAt w0 w w' base fb A c hs kind ov ov' (out ++ o2) s))
  case atStart => exact ⟨0, [], ov, stop, false, rfl, rfl, ⟨by omega, by omega, by simp, by simp⟩, ⟨by simpa using HS.out⟩⟩
  case round =>
    obtain ⟨i, o2, ov', s, e, rfl, rfl, HI, HT⟩ := hrel
    have hcx := Kd.C_below HIN.out HT.out.below
    by_cases hlt : (i : Int) < hs.length
    · obtain ⟨ad, rfl, hx0, hx1, hx2, hx3⟩ := at_T53 hcx (i : Int) (by omega) hlt
      have hd : decide ((i : Int) < (hs.length : Int)) = true := decide_eq_true hlt
      have hd2 : decide (i < hs.length) = true := decide_eq_true (by omega)
      obtain ⟨h, hh⟩ : ∃ h, rd_T53 hs (i : Int) = h := ⟨_, rfl⟩
      have hdrop : hs.drop i = h :: hs.drop (i + 1) := by
        have hi : i < hs.length := by omega
        rw [List.drop_eq_getElem_cons hi, ← hh]
        simp [rd_T53, hi]
      rw [Int.toNat_natCast] at hx0 hx1 hx2 hx3
      rw [hh] at hx0 hx1 hx2 hx3
      have HDROP := Aside0.mk hdrop
      clear hdrop hcx hh
      go_upto_region 4 with (fail)
      generalize hw4 : World.alloc wr _ = w4
      have hb4 : Below wr.heap.size wr w4 := by rw [← hw4]; exact (Below.refl _ _).alloc (Nat.le_refl _) _
      have hblk4 : w4.heap[wr.heap.size]? = some (.cells #[.int .i64 h.f0, .string h.f1, .bool h.f2, .int .i64 h.f3] 53 (0, 0)) := by rw [← hw4]; exact blk_newest wr _
      have hfb4 := blk_below HT.out.blk hb4
      have hf3 : w4.cell? ⟨fb, 3, none⟩ = some (.bool s) := blk_cell hfb4 3
      have hf0 : w4.cell? ⟨fb, 0, none⟩ = some (.string kind) := blk_cell hfb4 0
      have hg0 : w4.cell? ⟨wr.heap.size, 0, none⟩ = some (.int .i64 h.f0) := blk_cell hblk4 0
      have hg1 : w4.cell? ⟨wr.heap.size, 1, none⟩ = some (.string h.f1) := blk_cell hblk4 1
      have hg2 : w4.cell? ⟨wr.heap.size, 2, none⟩ = some (.bool h.f2) := blk_cell hblk4 2
      have hg3 : w4.cell? ⟨wr.heap.size, 3, none⟩ = some (.int .i64 h.f3) := blk_cell hblk4 3
      have HB4 := Aside0.mk hb4
      have HBLK4 := Aside0.mk hblk4
      have HFB4 := Aside0.mk hfb4
      clear hw4 hx0 hx1 hx2 hx3 hb4 hblk4 hfb4
      generalize wr.heap.size = hbk at hg0 hg1 hg2 hg3 HBLK4 ⊢
      (try simp only [Act.put, List.setIfInBounds_toArray, List.set_cons_zero, List.set_cons_succ])
      go_cut [43] (fun v43 wc => v43 = .bool (s || !fitsAt a kind mode h) ∧ Aside0 (Below w4.heap.size w4 wc))
      case first =>
        cases s with
        | true =>
          clear hg0 hg1 hg2 hg3 hf0
          go_region
          go_wp2
          go_meet
          case rel => exact ⟨rfl, ⟨(Below.refl _ _).drew⟩⟩
        | false =>
          by_cases c1 : h.f0 = a
          · have d1 : decide (h.f0 = a) = true := decide_eq_true c1
            have d2 : (h.f0 == a) = true := by simpa using c1
            have d3 : (h.f0 != a) = false := by simpa using c1
            by_cases c2 : h.f1 = kind
            · have e1 : decide (h.f1 = kind) = true := decide_eq_true c2
              have e2 : (h.f1 == kind) = true := by rw [bytes_beq]; exact e1
              have e3 : (h.f1.toList == kind.toList) = true := by rw [← Go.beq_toListBytes]; exact e2
              have HRES := Aside0.mk (show (!mode h) = (false || !fitsAt a kind mode h) by simp [fitsAt, c1, c2])
              clear c1 c2
              have hkf := HKF.out
              clear HKF
              have hmo := HMODE.out h
              clear HMODE
              generalize mode h = mb at hmo HRES
              have HMO := Aside0.mk hmo
              clear hmo
              rcases hkf with rfl | rfl | rfl
              all_goals
                go_region_with (refine (HMO.out _).mono ?_; rintro en w5 ⟨rfl, hb5⟩; have HB5 := Aside0.mk hb5; clear hb5)
                all_goals
                  go_wp2
                  go_meet
                  case rel => exact ⟨congrArg _ HRES.out, ⟨below_step (Below.refl _ _).drew HB5.out⟩⟩
            · have e1 : decide (h.f1 = kind) = false := decide_eq_false c2
              have e2 : (h.f1 == kind) = false := by rw [bytes_beq]; exact e1
              have e3 : (h.f1.toList == kind.toList) = false := by rw [← Go.beq_toListBytes]; exact e2
              have HRES := Aside0.mk (show Value.bool true = .bool (false || !fitsAt a kind mode h) by simp [fitsAt, c2])
              clear hg2 hg3 c1 c2
              go_region
              go_wp2
              go_meet
              case rel => exact ⟨HRES.out, ⟨(Below.refl _ _).drew⟩⟩
          · have d1 : decide (h.f0 = a) = false := decide_eq_false c1
            have d2 : (h.f0 == a) = false := by simpa using c1
            have d3 : (h.f0 != a) = true := by simpa using c1
            have HRES := Aside0.mk (show Value.bool true = .bool (false || !fitsAt a kind mode h) by simp [fitsAt, c1])
            clear hg1 hg2 hg3 hf0 c1
            go_region
            go_wp2
            go_meet
            case rel => exact ⟨HRES.out, ⟨(Below.refl _ _).drew⟩⟩
      case rest =>
        obtain ⟨rfl, HBC⟩ := hcut
        have hbk5 := blk_below HBLK4.out HBC.out
        have hT := HT.out.step (below_step HB4.out HBC.out) HT.out.kept.1
        clear hf3 hf0 hg0 hg1 hg2 hg3 HFB4 HBLK4 HB4 HBC
        rcases Bool.eq_false_or_eq_true (s || !fitsAt a kind mode h) with hfit | hfit
        · have HIN2 := Aside0.mk (show (i + 1 + (gk - 1) = hs.length + 1 ∧ i + 1 ≤ hs.length ∧ o2.length ≤ i + 1 ∧ stepL (fitsAt a kind mode) hs 0 stop false = (o2 ++ (stepL (fitsAt a kind mode) (hs.drop (i + 1)) (i + 1 : Nat) s e).1, (stepL (fitsAt a kind mode) (hs.drop (i + 1)) (i + 1 : Nat) s e).2)) ∧ 0 < gk by
            have := HI.out
            refine ⟨⟨by omega, by omega, by omega, ?_⟩, by omega⟩
            rw [this.2.2.2, HDROP.out]
            simp only [stepL, hfit, if_true]
            rfl)
          have HT5 := Aside0.mk hT
          rw [hfit]
          have hi4 : (i : Int) ≤ 1000 := by omega
          clear hT hbk5 hlt
          go_wp2
          have hii : (i : Int) + 1 = ((i + 1 : Nat) : Int) := by omega
          go_roundg (gk - 1)
          case measure => have := HIN2.out; omega
          case rel => exact ⟨i + 1, o2, ov', s, e, rfl, by rw [hii], ⟨HIN2.out.1⟩, HT5⟩
        · have hs0 : s = false := by cases s <;> simp_all
          subst hs0
          have hf : fitsAt a kind mode h = true := by simpa using hfit
          have HIN2 := Aside0.mk (show (i + 1 + (gk - 1) = hs.length + 1 ∧ i + 1 ≤ hs.length ∧ (o2 ++ [(i : Int)]).length ≤ i + 1 ∧ stepL (fitsAt a kind mode) hs 0 stop false = (o2 ++ [(i : Int)] ++ (stepL (fitsAt a kind mode) (hs.drop (i + 1)) (i + 1 : Nat) (h.f3 == 2) (e || h.f3 == 1)).1, (stepL (fitsAt a kind mode) (hs.drop (i + 1)) (i + 1 : Nat) (h.f3 == 2) (e || h.f3 == 1)).2)) ∧ 0 < gk by
            have := HI.out
            refine ⟨⟨by omega, by omega, by simp; omega, ?_⟩, by omega⟩
            rw [this.2.2.2, HDROP.out]
            simp only [stepL, hf, Bool.not_true, Bool.or_false, Bool.false_eq_true, if_false, List.append_assoc, List.singleton_append]
            rfl)
          rw [hfit]
          obtain ⟨A5, c5, e5⟩ := Kd.R_slice hT.row
          subst e5
          have hcf2 : wc.cell? ⟨fb, 2, none⟩ = some (.slice A5 (out ++ o2).length c5) := blk_cell hT.blk 2
          have hol : (out ++ o2).length ≤ 1099511628776 := by have := HI.out; have := HALL.out; simp; omega
          have HT5 := Aside0.mk hT
          have HBK5 := Aside0.mk hbk5
          have hi4 : (i : Int) ≤ 1000 := by omega
          generalize hon : out ++ o2 = on at *
          clear hT hbk5 hlt hf hfit
          go_upto_region 6 with (first | ((with_reducible refine gate_builtin (b := .append) (xs := #[.tmp 48, .tmp 50]) rfl ?_); at_builtin; refine Kd.R_append (Kd.int .i64) (w0 := wc) base rfl (.tmp 48) (.tmp 50) 28 3 (.int .i64 0) 8 rfl Try.underlying28 info3 rfl (by decide) (by omega) (.slice A5 on.length c5) on (i : Int) [.int .i64 (i : Int)] (fun _ => True) (fun _ => False) rfl rfl ?aP (fun _ hk => hk.elim) ?aF ?aO ?aB ?aS ?aL ?_; (case aP => exact rfl); (case aB => exact Below.refl _ _); (case aF => exact (fun _ _ => trivial)); (case aO => exact HT5.out.row); (case aS => have := HALL.out.2.2.2.2.2; have := HT5.out.kept.1; omega); (case aL => omega); intro v8 w8 ho hb hg hat; generalize hol8 : on ++ [(i : Int)] = on8 at ho; have HOL8 := Aside0.mk hol8; clear hol8; obtain ⟨A8, c8, e8⟩ := Kd.R_slice ho; have HM8 := Aside0.mk hat; have HROW8 := Aside0.mk ho; have HG8 := Aside0.mk hg; subst e8; obtain ⟨hc2, hf2, hrest⟩ := HT5.out.behind HBK5.out hg; have HREST := Aside0.mk hrest; clear ho hb hg hat hrest))
          generalize hw9 : World.setCell w8 _ _ = w9
          obtain ⟨hh9, hc93, hf93⟩ := HREST.out _ w9 hw9.symm
          have hc3 : w9.cell? ⟨hbk, 3, none⟩ = some (.int .i64 h.f3) := blk_cell hh9 3
          have HW9 := Aside0.mk hw9
          clear hc2 hf2 hh9 hw9 hcf2
          have hon8 : out ++ (o2 ++ [(i : Int)]) = on8 := by rw [← HOL8.out, ← hon, List.append_assoc]
          have HNEXT := Aside0.mk (fun (w10 : World) (h10 : w10 = w9.setCell ⟨fb, 3, none⟩ (.bool (h.f3 == 2))) => (by have hx := HT5.out.next (s2 := h.f3 == 2) HALL.out.2.2.1 HALL.out.2.2.2.1 (by rw [HOL8.out]; exact HROW8.out) HG8.out HM8.out HW9.out.symm h10; rw [HOL8.out] at hx; rw [hon8]; exact hx : StepAt w0 w w10 base fb (some ad) c hs kind ov (.slice A8 on8.length c8) (out ++ (o2 ++ [(i : Int)])) (h.f3 == 2)))
          clear hon8
          cases e with
          | true =>
            go_wp2
            have hii : (i : Int) + 1 = ((i + 1 : Nat) : Int) := by omega
            go_roundg (gk - 1)
            case measure => have := HIN2.out; omega
            case rel => exact ⟨i + 1, o2 ++ [(i : Int)], _, (h.f3 == 2), true, rfl, by rw [hii], ⟨HIN2.out.1⟩, ⟨HNEXT.out _ rfl⟩⟩
          | false =>
            go_wp2
            have hii : (i : Int) + 1 = ((i + 1 : Nat) : Int) := by omega
            go_roundg (gk - 1)
            case measure => have := HIN2.out; omega
            case rel => exact ⟨i + 1, o2 ++ [(i : Int)], _, (h.f3 == 2), (h.f3 == 1), rfl, by rw [hii], ⟨HIN2.out.1⟩, ⟨HNEXT.out _ rfl⟩⟩
    · have hd : decide ((i : Int) < (hs.length : Int)) = false := decide_eq_false hlt
      have hd2 : decide (i < hs.length) = false := decide_eq_false (by omega)
      have HRES := Aside0.mk (show stepL (fitsAt a kind mode) hs 0 stop false = (o2, s || e) by
        have := HI.out
        rw [this.2.2.2, List.drop_eq_nil_of_le (by omega)]
        simp [stepL])
      have hcf3 : wr.cell? ⟨fb, 3, none⟩ = some (.bool s) := blk_cell HT.out.blk 3
      have hff3 := blk_frozen HT.out.blk 3
      have HFIN := Aside0.mk (fun (w10 : World) (h10 : w10 = wr.setCell ⟨fb, 3, none⟩ (.bool (s || e))) => (HT.out.ended h10 HALL.out.2.2.1 HALL.out.2.2.2.1 : StepAt w0 w w10 base fb A c hs kind ov ov' (out ++ o2) (s || e)))
      clear hlt hcx
      cases s with
      | true =>
        go_wp2
        go_end0
        refine ⟨rfl, ov', ?_⟩
        rw [HRES.out]
        exact HFIN.out _ rfl
      | false =>
        cases e with
        | true =>
          go_wp2
          go_end0
          refine ⟨rfl, ov', ?_⟩
          rw [HRES.out]
          exact HFIN.out _ rfl
        | false =>
          go_wp2
          go_end0
          refine ⟨rfl, ov', ?_⟩
          rw [HRES.out]
          exact HFIN.out _ rfl
end Go.Proofs.Ytcjaakbmabhmdaa.Impl
