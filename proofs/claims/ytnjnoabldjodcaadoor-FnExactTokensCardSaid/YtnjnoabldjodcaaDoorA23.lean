/- Part 23 of the proof: TokRaw, TokPTxt, TokNext, TokFit. -/
import Derived.Test.YtnjnoabldjodcaaDoorA22
import Derived.WalkMore
import Derived.Deep.RegionLaw
import Derived.Test.YtnjnoabldjodcaaDoorA12
set_option linter.unusedVariables false
set_option linter.unusedSimpArgs false
namespace Go.Proofs.YtnjnoabldjodcaaDoor.Tok
open Go.RowKit Go.Proofs.YtnjnoabldjodcaaDoorW.PrintWords Go.Proofs.YtnjnoabldjodcaaDoorW.PrintLast Go.Proofs.YtnjnoabldjodcaaDoorW.PrintMore Go.Proofs.YtnjnoabldjodcaaDoor.PFnExactTokens
theorem irawKind_f (n : ByteArray) : Ev (fun k => impl_RawKind.f k n) (rawKind (B n)) := by
  have e : ∀ (l : List UInt8) (m : Bs), B ⟨l.toArray⟩ = m → (n.toList = l ↔ B n = m) := fun l m h => by
    rw [← h, ← toList_eq, toList_data ⟨l.toArray⟩]
  have e1 := e [115, 116, 121, 108, 101] [115, 116, 121, 108, 101] (by decide)
  have e2 := e [115, 99, 114, 105, 112, 116] [115, 99, 114, 105, 112, 116] (by decide)
  have e3 := e [116, 105, 116, 108, 101] [116, 105, 116, 108, 101] (by decide)
  have e4 := e [116, 101, 120, 116, 97, 114, 101, 97] [116, 101, 120, 116, 97, 114, 101, 97] (by decide)
  refine ⟨1, fun k hk => ?_⟩
  obtain ⟨m, rfl⟩ : ∃ m, k = m + 1 := ⟨k - 1, by omega⟩
  dsimp only
  unfold rawKind
  simp only [impl_RawKind.f]
  by_cases c1 : n.toList = [115, 116, 121, 108, 101]
  · rw [if_pos c1, if_pos (.inl (e1.1 c1))]
    simp [impl_RawKind.j0, c1]
  · rw [if_neg c1]
    by_cases c2 : n.toList = [115, 99, 114, 105, 112, 116]
    · rw [if_pos (.inr (e2.1 c2))]
      simp [impl_RawKind.j0, c2]
    · rw [if_neg (fun h => h.elim (fun h => c1 (e1.2 h)) (fun h => c2 (e2.2 h)))]
      simp only [impl_RawKind.j0]
      rw [if_neg (by simpa using c2)]
      by_cases c3 : n.toList = [116, 105, 116, 108, 101]
      · rw [if_pos c3, if_pos (.inl (e3.1 c3))]
      · rw [if_neg c3]
        by_cases c4 : n.toList = [116, 101, 120, 116, 97, 114, 101, 97]
        · rw [if_pos c4, if_pos (.inr (e4.1 c4))]
        · rw [if_neg c4, if_neg (fun h => h.elim (fun h => c3 (e3.2 h)) (fun h => c4 (e4.2 h)))]
theorem irawKind_calls (n : ByteArray) (w : World) : Calls Tryd.prog 18 #[.string n] w fun e w' => e = .returned (.int .i64 (rawKind (B n))) ∧ Below w.heap.size w w' := by
  obtain ⟨k, hk⟩ := (irawKind_f n).some
  exact (impl_RawKind.calls k n _ w hk).mono fun e w' h => ⟨h.1, h.2.below⟩
theorem isClose_lt {L nm : Bs} {i : Nat} (h : isClose L nm i = true) : i + 2 + nm.length < L.length := by
  unfold isClose at h
  rcases Nat.lt_or_ge (i + 2 + nm.length) L.length with h2 | h2
  · exact h2
  · rw [List.getElem?_eq_none h2] at h
    simp at h
theorem clI_all (L nm : Bs) : ∀ (d i : Nat), L.length ≤ i + 2 + nm.length → clI L nm d i = L.length
  | 0, i, h => rfl
  | d + 1, i, h => by unfold clI; rw [if_neg (by omega)]
theorem clI_step (L nm : Bs) (d i : Nat) (h : i + (d + 1) = L.length) : clI L nm (d + 1) i = if isClose L nm i then i else clI L nm d (i + 1) := by
  rcases Nat.lt_or_ge (i + 2 + nm.length) L.length with h2 | h2
  · conv => lhs; unfold clI
    rw [if_pos h2]
  · rw [clI_all L nm (d + 1) i h2, if_neg (fun hc => by have := isClose_lt hc; omega), clI_all L nm d (i + 1) (by omega)]
theorem close_is (s raw : ByteArray) (i : Nat) (hi : i ≤ s.size) (r : ByteArray) (hr : r = s.extract i s.size) :
    isClose (B s) (B raw) i = (pre [60, 47] (B r) && (decide (2 + raw.size < r.size) && (((S (low (B (r.extract 2 (2 + raw.size))))).toList == raw.toList) && endsIn [47, 62] (bt r ((2 + raw.size : Nat) : Int))))) := by
  have hBr : B r = (B s).drop i := by rw [hr, B_rest]
  have hsz : r.size = s.size - i := by rw [hr, rest_size]
  unfold isClose
  rw [← hBr]
  rcases Nat.lt_or_ge (2 + raw.size) r.size with h | h
  · rw [decide_eq_true h, Bool.true_and]
    have h1 : (B s)[i + 2 + (B raw).length]? = some (bt r ((2 + raw.size : Nat) : Int)) := by
      rw [← B_get r _ h, hBr, List.getElem?_drop, B_length, Nat.add_assoc]
    rw [h1]
    have h2 : decide (low (part (B s) (i + 2) (i + 2 + (B raw).length)) = B raw) = ((S (low (B (r.extract 2 (2 + raw.size))))).toList == raw.toList) := by
      rw [Bool.eq_iff_iff]
      simp only [decide_eq_true_eq, beq_iff_eq, toList_eq]
      rw [B_S (show ∀ b ∈ low (B (r.extract 2 (2 + raw.size))), byte b from fun b hb => by obtain ⟨x, hx, rfl⟩ := List.mem_map.1 hb; exact lowB_byte (B_byte _ x hx)), B_extract, hBr, List.drop_drop, B_length]
      unfold part
      rw [show i + 2 + raw.size - (i + 2) = 2 + raw.size - 2 by omega]
    rw [h2]
  · rw [decide_eq_false (show ¬ 2 + raw.size < r.size by omega)]
    rw [List.getElem?_eq_none (show (B s).length ≤ i + 2 + (B raw).length by rw [B_length, B_length]; omega)]
    simp
theorem extract_part (s : ByteArray) (i J : Nat) : s.extract i J = S (part (B s) i J) := by
  rw [show part (B s) i J = B (s.extract i J) from (B_extract s i J).symm, S_B]
set_option maxHeartbeats 8000000 in
set_option maxRecDepth 100000 in
theorem raw_calls {base : Nat} {ok : Nat → Prop} {w : World} {b : Nat} {s : ByteArray} {i : Nat} {a v o : Value} {p : Bs} {out : List T} (h : ScanAt base ok w b s i a v o p out) (raw : ByteArray) (hs : s.size < 2 ^ 30) (hr : raw.size < 2 ^ 30) (hi : i ≤ s.size) (hR : Refs w) (hb0 : b ≠ 0) (hp : p.length < 2 ^ 40) :
    Calls Tryd.prog 19 #[.pointer (some ⟨b, 0, none⟩), .string raw] w fun e w' => ∃ a' v', e = .returned (.tuple #[]) ∧ ScanAt base ok w' b s (clI (B s) (B raw) (s.size - i) i) a' v' o (p ++ rawText (B raw) (part (B s) i (clI (B s) (B raw) (s.size - i) i))) out ∧ Turned (fun k => k = b ∨ some k = v.ownBlock) w w' := by
  obtain ⟨J, hJ⟩ : ∃ J, J = clI (B s) (B raw) (s.size - i) i := ⟨_, rfl⟩
  rw [← hJ]
  have HJ := Aside0.mk hJ
  have H := Aside0.mk h
  have HS := Aside0.mk hs
  have HRS := Aside0.mk hr
  have HI := Aside0.mk hi
  have HREF := Aside0.mk hR
  have HB0 := Aside0.mk hb0
  have HP := Aside0.mk hp
  obtain ⟨big, hbig⟩ : ∃ big : Int, big = 1073741824 := ⟨_, rfl⟩
  have hrb : (raw.size : Int) < big := by omega
  have hsb : (s.size : Int) < big := by omega
  have hbig2 : big ≤ 4611686018427387904 := by omega
  obtain ⟨RK, hRK⟩ : ∃ RK, RK = rawKind (B raw) := ⟨_, rfl⟩
  have HKC := Aside0.mk (fun W => irawKind_calls raw W)
  rw [← hRK] at HKC
  have HRK := Aside0.mk hRK
  have HPL := Aside0.mk (show ∀ J, (part (B s) i J).length ≤ s.size from fun J => by have := part_le (B s) i J; rw [B_length] at this; exact this)
  have HTX := Aside0.mk (show ∀ (W : World) (t : ByteArray), ScanAt base ok W b s J a v o p out → Turned (fun k => k = b) w W → B t = rawText (B raw) (part (B s) i J) → t.size < 2 ^ 40 → Calls Tryd.prog 41 #[.pointer (some ⟨b, 2, none⟩), .string t] W fun e w' => e = .returned (.tuple #[.int .i64 t.size, .nilIface]) ∧ ∃ a' v', ScanAt base ok w' b s J a' v' o (p ++ rawText (B raw) (part (B s) i J)) out ∧ Turned (fun k => k = b ∨ some k = v.ownBlock) w w' from fun W t hq ht htx hts => by
    refine (text_calls hq t (by omega)).mono ?_
    rintro e w' ⟨v', rfl, h1, h2⟩
    rw [htx] at h1
    exact ⟨rfl, _, v', h1, (ht.mono (fun _ _ e => .inl e)).trans h2⟩)
  clear h hs hr hi hR hb0 hp hJ hRK hbig
  go_enter Tryd.func19, Tryd.ntmps19
  have c1 := H.out.blk.c1
  go_wp2
  refine wp_scope_straight ?_
  go_wp2
  refine wp_label ?_
  simp only [Exit.then]
  apply ‹∀ (a : Act) (w : World), Code.wp _ _ _ a w → _›
  refine wp_seq ?_
  go_wp2
  clear c1
  go_loopg [] (s.size + 1) (fun kq wr => ∃ (j : Nat), Aside0 (ScanAt base ok wr b s j a v o p out) ∧ Aside0 (clI (B s) (B raw) (s.size - j) j = J ∧ j ≤ s.size ∧ s.size < j + kq ∧ i ≤ j) ∧ Aside0 (Turned (fun k => k = b) w wr))
  case atStart => exact ⟨i, H, ⟨HJ.out.symm, HI.out, by omega, Nat.le_refl _⟩, ⟨Turned.refl _ _⟩⟩
  case round =>
    obtain ⟨j, HC, HQ, HT⟩ := hrel
    have c0 := HC.out.blk.c0
    have c1 := HC.out.blk.c1
    have f1 := HC.out.blk.f1
    by_cases hj : j < s.size
    · obtain ⟨g, rfl⟩ : ∃ g, gk = g + 1 := ⟨gk - 1, by have := HQ.out.2.2.1; omega⟩
      have hd : decide (j < s.size) = true := decide_eq_true hj
      have hjj : (j : Int) < (s.size : Int) := by omega
      obtain ⟨r, hr⟩ : ∃ r, r = s.extract j s.size := ⟨_, rfl⟩
      have hcl := clI_step (B s) (B raw) (s.size - (j + 1)) j (by rw [B_length]; omega)
      rw [show s.size - (j + 1) + 1 = s.size - j by omega, HQ.out.1, close_is s raw j (by omega) r hr] at hcl
      have hsz : r.size = s.size - j := by rw [hr, rest_size]
      have hrz : (r.size : Int) ≤ s.size := by omega
      have HRZ := Aside0.mk hrz
      have HREST := Aside0.mk (fun (W : World) (hb : Sc W b s j a v o) => by have := rest_calls s b j (by omega) a v o W hb; rw [← hr] at this; exact this)
      have HJ1 := Aside0.mk hj
      clear hj hr hsz
      rcases hA : pre [60, 47] (B r) with _ | _
      · have HA := Aside0.mk hA
        rw [hA, Bool.false_and] at hcl
        clear hA
        have HNX := Aside0.mk (show clI (B s) (B raw) (s.size - (j + 1)) (j + 1) = J by rw [hcl]; rfl)
        clear hcl
        go_wp2
        go_quiet (fail)
        go_wp2_with (first | (go_at_call 36; refine (HREST.out _ (HC.out.blk.drewN _)).mono ?_; rintro e w2 ⟨rfl, n2, hw2⟩; have HC2 := Aside0.mk (show ScanAt base ok w2 b s j a v o p out by rw [hw2]; exact (HC.out.drewN _).drewN n2); have HT2 := Aside0.mk (show Turned (fun k => k = b) w w2 by rw [hw2]; exact (HT.out.drewN _).drewN n2); clear hw2; have c12 := HC2.out.blk.c1; have f12 := HC2.out.blk.f1) | (go_at_call 37; refine (prefix_calls r ⟨#[60, 47]⟩ _).mono ?_; rintro e w3 ⟨rfl, rfl⟩; rw [show B ⟨#[60, 47]⟩ = [60, 47] from by decide, HA.out]))
        go_roundg g
        case measure => omega
        case rel => exact ⟨j + 1, ⟨HC2.out.at_ (j + 1)⟩, ⟨HNX.out, HJ1.out, by have := HQ.out.2.2.1; omega, by have := HQ.out.2.2.2; omega⟩, ⟨HT2.out.at_ _ _⟩⟩
      · have HA := Aside0.mk hA
        rw [hA, Bool.true_and] at hcl
        clear hA
        by_cases hD : 2 + raw.size < r.size
        · rw [decide_eq_true hD, Bool.true_and] at hcl
          have hD1 : decide (2 + (raw.size : Int) < (r.size : Int)) = true := decide_eq_true (by omega)
          have hD2 : 2 + (raw.size : Int) < (r.size : Int) := by omega
          have hD3 : 2 + (raw.size : Int) ≤ (r.size : Int) := by omega
          have hD4 : (2 : Int) ≤ 2 + (raw.size : Int) := by omega
          have hx := bt_at r ((2 + raw.size : Nat) : Int)
          rw [Int.toNat_natCast] at hx
          have htn : (2 + (raw.size : Int)).toNat = 2 + raw.size := by omega
          have hcs : ((2 + raw.size : Nat) : Int) = 2 + (raw.size : Int) := rfl
          clear hD
          rcases hC : ((S (low (B (r.extract 2 (2 + raw.size))))).toList == raw.toList) with _ | _
          · rw [hC, Bool.false_and] at hcl
            have HNX := Aside0.mk (show clI (B s) (B raw) (s.size - (j + 1)) (j + 1) = J by rw [hcl]; rfl)
            clear hcl
            go_wp2
            go_quiet (fail)
            go_wp2_with (first | (go_at_call 36; refine (HREST.out _ (HC.out.blk.drewN _)).mono ?_; rintro e w2 ⟨rfl, n2, hw2⟩; have HC2 := Aside0.mk (show ScanAt base ok w2 b s j a v o p out by rw [hw2]; exact (HC.out.drewN _).drewN n2); have HT2 := Aside0.mk (show Turned (fun k => k = b) w w2 by rw [hw2]; exact (HT.out.drewN _).drewN n2); clear hw2; have c12 := HC2.out.blk.c1; have f12 := HC2.out.blk.f1) | (go_at_call 37; refine (prefix_calls r ⟨#[60, 47]⟩ _).mono ?_; rintro e w3 ⟨rfl, rfl⟩; rw [show B ⟨#[60, 47]⟩ = [60, 47] from by decide, HA.out]) | (go_at_call 38; refine (lower_calls (r.extract 2 (2 + raw.size)) (by rw [← B_length, B_extract, List.length_take, List.length_drop, B_length]; have := HRZ.out; have := HS.out; omega) _).mono ?_; rintro e w4 ⟨rfl, hb4⟩; have HC4 := Aside0.mk (HC2.out.under hb4); have HT4 := Aside0.mk (HT2.out.trans (Turned.of_below hb4)); have c14 := HC4.out.blk.c1; have f14 := HC4.out.blk.f1; clear hb4))
            go_roundg g
            case measure => omega
            case rel => exact ⟨j + 1, ⟨HC4.out.at_ (j + 1)⟩, ⟨HNX.out, HJ1.out, by have := HQ.out.2.2.1; omega, by have := HQ.out.2.2.2; omega⟩, ⟨HT4.out.at_ _ _⟩⟩
          · rw [hC, Bool.true_and] at hcl
            rcases hE : endsIn [47, 62] (bt r ((2 + raw.size : Nat) : Int)) with _ | _
            · have HE := Aside0.mk hE
              rw [hE] at hcl
              clear hE
              have HNX := Aside0.mk (show clI (B s) (B raw) (s.size - (j + 1)) (j + 1) = J by rw [hcl]; rfl)
              clear hcl
              go_wp2
              go_quiet (fail)
              go_wp2_with (first | (go_at_call 36; refine (HREST.out _ (HC.out.blk.drewN _)).mono ?_; rintro e w2 ⟨rfl, n2, hw2⟩; have HC2 := Aside0.mk (show ScanAt base ok w2 b s j a v o p out by rw [hw2]; exact (HC.out.drewN _).drewN n2); have HT2 := Aside0.mk (show Turned (fun k => k = b) w w2 by rw [hw2]; exact (HT.out.drewN _).drewN n2); clear hw2; have c12 := HC2.out.blk.c1; have f12 := HC2.out.blk.f1) | (go_at_call 37; refine (prefix_calls r ⟨#[60, 47]⟩ _).mono ?_; rintro e w3 ⟨rfl, rfl⟩; rw [show B ⟨#[60, 47]⟩ = [60, 47] from by decide, HA.out]) | (go_at_call 38; refine (lower_calls (r.extract 2 (2 + raw.size)) (by rw [← B_length, B_extract, List.length_take, List.length_drop, B_length]; have := HRZ.out; have := HS.out; omega) _).mono ?_; rintro e w4 ⟨rfl, hb4⟩; have HC4 := Aside0.mk (HC2.out.under hb4); have HT4 := Aside0.mk (HT2.out.trans (Turned.of_below hb4)); have c14 := HC4.out.blk.c1; have f14 := HC4.out.blk.f1; clear hb4) | (go_at_call 39; refine (ends_name_calls (bt r ((2 + raw.size : Nat) : Int)) _).mono ?_; rintro e w5 ⟨rfl, rfl⟩; rw [HE.out]))
              go_roundg g
              case measure => omega
              case rel => exact ⟨j + 1, ⟨HC4.out.at_ (j + 1)⟩, ⟨HNX.out, HJ1.out, by have := HQ.out.2.2.1; omega, by have := HQ.out.2.2.2; omega⟩, ⟨HT4.out.at_ _ _⟩⟩
            · have HE := Aside0.mk hE
              rw [hE] at hcl
              have HJE := Aside0.mk (show J = j by rw [hcl]; rfl)
              clear hcl hE
              go_wp2
              go_quiet (fail)
              go_wp2_with (first | (go_at_call 36; refine (HREST.out _ (HC.out.blk.drewN _)).mono ?_; rintro e w2 ⟨rfl, n2, hw2⟩; have HC2 := Aside0.mk (show ScanAt base ok w2 b s j a v o p out by rw [hw2]; exact (HC.out.drewN _).drewN n2); have HT2 := Aside0.mk (show Turned (fun k => k = b) w w2 by rw [hw2]; exact (HT.out.drewN _).drewN n2); clear hw2; have c12 := HC2.out.blk.c1; have f12 := HC2.out.blk.f1) | (go_at_call 37; refine (prefix_calls r ⟨#[60, 47]⟩ _).mono ?_; rintro e w3 ⟨rfl, rfl⟩; rw [show B ⟨#[60, 47]⟩ = [60, 47] from by decide, HA.out]) | (go_at_call 38; refine (lower_calls (r.extract 2 (2 + raw.size)) (by rw [← B_length, B_extract, List.length_take, List.length_drop, B_length]; have := HRZ.out; have := HS.out; omega) _).mono ?_; rintro e w4 ⟨rfl, hb4⟩; have HC4 := Aside0.mk (HC2.out.under hb4); have HT4 := Aside0.mk (HT2.out.trans (Turned.of_below hb4)); have c14 := HC4.out.blk.c1; have f14 := HC4.out.blk.f1; clear hb4) | (go_at_call 39; refine (ends_name_calls (bt r ((2 + raw.size : Nat) : Int)) _).mono ?_; rintro e w5 ⟨rfl, rfl⟩; rw [HE.out]))
              have c04 := HC4.out.blk.c0
              have hij : (i : Int) ≤ (j : Int) := by have := HQ.out.2.2.2; omega
              have hjz : (j : Int) ≤ (s.size : Int) := by have := HQ.out.2.1; omega
              rcases hk2 : (RK == 2) with _ | _
              · have HK2 := Aside0.mk (beq_eq_false_iff_ne.1 hk2)
                have HRT := Aside0.mk (show rawText (B raw) (part (B s) i j) = part (B s) i j by unfold rawText; rw [if_neg (by rw [← HRK.out]; exact HK2.out)])
                go_wp2
                go_quiet (fail)
                go_wp2_with (first | (go_at_call 18; refine (HKC.out _).mono ?_; rintro e w8 ⟨rfl, hb8⟩; have HC8 := Aside0.mk ((HC4.out.drewN _).under hb8); have HT8 := Aside0.mk ((HT4.out.drewN _).trans (Turned.of_below hb8)); clear hb8) | (go_at_call 41; refine (HTX.out _ (s.extract i j) (by rw [HJE.out]; exact HC8.out) HT8.out (by rw [HJE.out, HRT.out, B_extract]; rfl) (by rw [← B_length, B_extract]; have := HPL.out j; unfold part at this; have := HS.out; omega)).mono ?_; rintro e w10 ⟨rfl, h10⟩; have H10 := Aside0.mk h10; clear h10))
                obtain ⟨a', v', h11, h12⟩ := H10.out
                simp only [Exit.noGoto_normal]
                refine bodyPost_end (results_none rfl _ _ _) rfl ?_
                exact ⟨a', v', rfl, h11, h12⟩
              · have HK2 := Aside0.mk (beq_iff_eq.1 hk2)
                have HRT := Aside0.mk (show rawText (B raw) (part (B s) i j) = refs false (part (B s) i j) by unfold rawText; rw [if_pos (by rw [← HRK.out]; exact HK2.out)])
                go_wp2
                go_quiet (fail)
                go_wp2_with (first | (go_at_call 18; refine (HKC.out _).mono ?_; rintro e w8 ⟨rfl, hb8⟩; have HC8 := Aside0.mk ((HC4.out.drewN _).under hb8); have HT8 := Aside0.mk ((HT4.out.drewN _).trans (Turned.of_below hb8)); clear hb8) | (go_at_call 40; refine (resolved_calls (s.extract i j) (by rw [← B_length, B_extract]; have := HPL.out j; unfold part at this; have := HS.out; omega) false _ (HREF.out.turned HT8.out (fun e => HB0.out e.symm))).mono ?_; rintro e w9 ⟨rfl, hb9⟩; have HC9 := Aside0.mk (HC8.out.under hb9); have HT9 := Aside0.mk (HT8.out.trans (Turned.of_below hb9)); clear hb9) | (go_at_call 41; refine (HTX.out _ (S (refs false (B (s.extract i j)))) (by rw [HJE.out]; exact HC9.out) HT9.out (by rw [B_S (show ∀ b ∈ refs false (B (s.extract i j)), byte b from refsF_byte false _ _ (B_byte _)), HJE.out, HRT.out, show B (s.extract i j) = part (B s) i j from B_extract s i j]) (by rw [S_size, show B (s.extract i j) = part (B s) i j from B_extract s i j]; have h1 := refs_len false (part (B s) i j); have h2 := HPL.out j; have h3 := HS.out; omega)).mono ?_; rintro e w10 ⟨rfl, h10⟩; have H10 := Aside0.mk h10; clear h10))
                obtain ⟨a', v', h11, h12⟩ := H10.out
                simp only [Exit.noGoto_normal]
                refine bodyPost_end (results_none rfl _ _ _) rfl ?_
                exact ⟨a', v', rfl, h11, h12⟩
        · rw [decide_eq_false hD, Bool.false_and] at hcl
          have hD1 : decide (2 + (raw.size : Int) < (r.size : Int)) = false := decide_eq_false (by omega)
          clear hD
          have HNX := Aside0.mk (show clI (B s) (B raw) (s.size - (j + 1)) (j + 1) = J by rw [hcl]; rfl)
          clear hcl
          go_wp2
          go_quiet (fail)
          go_wp2_with (first | (go_at_call 36; refine (HREST.out _ (HC.out.blk.drewN _)).mono ?_; rintro e w2 ⟨rfl, n2, hw2⟩; have HC2 := Aside0.mk (show ScanAt base ok w2 b s j a v o p out by rw [hw2]; exact (HC.out.drewN _).drewN n2); have HT2 := Aside0.mk (show Turned (fun k => k = b) w w2 by rw [hw2]; exact (HT.out.drewN _).drewN n2); clear hw2; have c12 := HC2.out.blk.c1; have f12 := HC2.out.blk.f1) | (go_at_call 37; refine (prefix_calls r ⟨#[60, 47]⟩ _).mono ?_; rintro e w3 ⟨rfl, rfl⟩; rw [show B ⟨#[60, 47]⟩ = [60, 47] from by decide, HA.out]))
          go_roundg g
          case measure => omega
          case rel => exact ⟨j + 1, ⟨HC2.out.at_ (j + 1)⟩, ⟨HNX.out, HJ1.out, by have := HQ.out.2.2.1; omega, by have := HQ.out.2.2.2; omega⟩, ⟨HT2.out.at_ _ _⟩⟩
    · have hd : decide (j < s.size) = false := decide_eq_false hj
      have hJJ : J = j := by
        have h1 := HQ.out.1
        have h2 := HQ.out.2.1
        have h3 : j = s.size := by omega
        rw [h3, Nat.sub_self] at h1
        rw [← h1, h3]
        exact B_length s
      have HJE := Aside0.mk hJJ
      clear hj hJJ
      have hij : (i : Int) ≤ (j : Int) := by have := HQ.out.2.2.2; omega
      have hjz : (j : Int) ≤ (s.size : Int) := by have := HQ.out.2.1; omega
      rcases hk2 : (RK == 2) with _ | _
      · have HK2 := Aside0.mk (beq_eq_false_iff_ne.1 hk2)
        have HRT := Aside0.mk (show rawText (B raw) (part (B s) i j) = part (B s) i j by unfold rawText; rw [if_neg (by rw [← HRK.out]; exact HK2.out)])
        go_wp2
        go_quiet (fail)
        go_wp2
        go_quiet (fail)
        go_wp2_with (first | (go_at_call 18; refine (HKC.out _).mono ?_; rintro e w8 ⟨rfl, hb8⟩; have HC8 := Aside0.mk ((HC.out.drewN _).under hb8); have HT8 := Aside0.mk ((HT.out.drewN _).trans (Turned.of_below hb8)); clear hb8) | (go_at_call 41; refine (HTX.out _ (s.extract i j) (by rw [HJE.out]; exact HC8.out) HT8.out (by rw [HJE.out, HRT.out, B_extract]; rfl) (by rw [← B_length, B_extract]; have := HPL.out j; unfold part at this; have := HS.out; omega)).mono ?_; rintro e w10 ⟨rfl, h10⟩; have H10 := Aside0.mk h10; clear h10))
        obtain ⟨a', v', h11, h12⟩ := H10.out
        simp only [Exit.noGoto_normal]
        refine bodyPost_end (results_none rfl _ _ _) rfl ?_
        exact ⟨a', v', rfl, h11, h12⟩
      · have HK2 := Aside0.mk (beq_iff_eq.1 hk2)
        have HRT := Aside0.mk (show rawText (B raw) (part (B s) i j) = refs false (part (B s) i j) by unfold rawText; rw [if_pos (by rw [← HRK.out]; exact HK2.out)])
        go_wp2
        go_quiet (fail)
        go_wp2
        go_quiet (fail)
        go_wp2_with (first | (go_at_call 18; refine (HKC.out _).mono ?_; rintro e w8 ⟨rfl, hb8⟩; have HC8 := Aside0.mk ((HC.out.drewN _).under hb8); have HT8 := Aside0.mk ((HT.out.drewN _).trans (Turned.of_below hb8)); clear hb8) | (go_at_call 40; refine (resolved_calls (s.extract i j) (by rw [← B_length, B_extract]; have := HPL.out j; unfold part at this; have := HS.out; omega) false _ (HREF.out.turned HT8.out (fun e => HB0.out e.symm))).mono ?_; rintro e w9 ⟨rfl, hb9⟩; have HC9 := Aside0.mk (HC8.out.under hb9); have HT9 := Aside0.mk (HT8.out.trans (Turned.of_below hb9)); clear hb9) | (go_at_call 41; refine (HTX.out _ (S (refs false (B (s.extract i j)))) (by rw [HJE.out]; exact HC9.out) HT9.out (by rw [B_S (show ∀ b ∈ refs false (B (s.extract i j)), byte b from refsF_byte false _ _ (B_byte _)), HJE.out, HRT.out, show B (s.extract i j) = part (B s) i j from B_extract s i j]) (by rw [S_size, show B (s.extract i j) = part (B s) i j from B_extract s i j]; have h1 := refs_len false (part (B s) i j); have h2 := HPL.out j; have h3 := HS.out; omega)).mono ?_; rintro e w10 ⟨rfl, h10⟩; have H10 := Aside0.mk h10; clear h10))
        obtain ⟨a', v', h11, h12⟩ := H10.out
        simp only [Exit.noGoto_normal]
        refine bodyPost_end (results_none rfl _ _ _) rfl ?_
        exact ⟨a', v', rfl, h11, h12⟩
end Go.Proofs.YtnjnoabldjodcaaDoor.Tok
set_option linter.unusedVariables false
set_option linter.unusedSimpArgs false
namespace Go.Proofs.YtnjnoabldjodcaaDoor.Tok
open Go.RowKit Go.Proofs.YtnjnoabldjodcaaDoorW.PrintWords Go.Proofs.YtnjnoabldjodcaaDoorW.PrintLast Go.Proofs.YtnjnoabldjodcaaDoorW.PrintMore Go.Proofs.YtnjnoabldjodcaaDoor.PFnExactTokens
theorem beg_zero (L : Bs) (i : Nat) : beg L i = 0 ↔ ¬ (L[i]? = some 60 ∧ opens L i = true) := by
  unfold beg opens
  cases h1 : L[i]? with
  | none => simp
  | some a =>
    cases h2 : L[i + 1]? with
    | none => simp
    | some c =>
      simp only [Option.some.injEq]
      by_cases ca : a = 60
      · rw [if_neg (by simpa using ca)]
        simp only [ca, true_and]
        cases hc : letter c with
        | true => simp
        | false =>
          have h33 : pre [60, 33, 45, 45] (L.drop i) = true → c = 33 := fun h => by
            rw [pre_cons, pre_cons, h2] at h
            simp at h
            exact h.2.1
          have hd : isDoc L i = true → c = 33 := fun h => by
            unfold isDoc at h
            rw [h2] at h
            simp at h
            exact h.2.1
          by_cases c33 : c = 33
          · subst c33
            simp
            split
            · simp
            · split <;> simp
          · have e1 : pre [60, 33, 45, 45] (L.drop i) = false := by cases h : pre [60, 33, 45, 45] (L.drop i) with
              | false => rfl
              | true => exact absurd (h33 h) c33
            have e2 : isDoc L i = false := by cases h : isDoc L i with
              | false => rfl
              | true => exact absurd (hd h) c33
            rw [e1, e2]
            simp only [Bool.false_eq_true, if_false]
            by_cases c63 : c = 63
            · subst c63; simp
            · rw [if_neg (by simp [c33, c63])]
              by_cases c47 : c = 47
              · subst c47
                simp only [ne_eq, not_true_eq_false, if_false]
                cases h3 : L[i + 2]? with
                | none =>
                  have : L.length ≤ i + 2 := List.getElem?_eq_none_iff.1 h3
                  simp
                  omega
                | some d =>
                  have : i + 2 < L.length := (List.getElem?_eq_some_iff.1 h3).1
                  simp [this]
                  split
                  · simp
                  · split <;> simp
              · rw [if_pos c47]
                simp [c33, c63, c47]
      · rw [if_pos ca]
        simp [ca]
theorem txI_go {L : Bs} {i : Nat} (hi : i < L.length) (h : beg L i = 0) : txI L (L.length - i) i = txI L (L.length - (i + 1)) (i + 1) := by
  rw [show L.length - i = (L.length - (i + 1)) + 1 by omega]
  conv => lhs; unfold txI
  rw [if_neg ((beg_zero L i).1 h)]
theorem txI_stop {L : Bs} {i : Nat} (hi : i < L.length) (h : beg L i ≠ 0) : txI L (L.length - i) i = i := by
  rw [show L.length - i = (L.length - (i + 1)) + 1 by omega]
  unfold txI
  rw [if_pos]
  exact Classical.byContradiction fun hc => h ((beg_zero L i).2 hc)
set_option maxHeartbeats 8000000 in
set_option maxRecDepth 100000 in
theorem plain_calls {base : Nat} {ok : Nat → Prop} {w : World} {b : Nat} {s : ByteArray} {i : Nat} {a v o : Value} {p : Bs} {out : List T} (h : ScanAt base ok w b s i a v o p out) (hs : s.size < 2 ^ 30) (hi : i ≤ s.size) (hR : Refs w) (hb0 : b ≠ 0) (hp : p.length < 2 ^ 40) :
    Calls Tryd.prog 48 #[.pointer (some ⟨b, 0, none⟩)] w fun e w' => ∃ a' v', e = .returned (.tuple #[]) ∧ ScanAt base ok w' b s (txI (B s) (s.size - i) i) a' v' o (p ++ refs false (part (B s) i (txI (B s) (s.size - i) i))) out ∧ Turned (fun k => k = b ∨ some k = v.ownBlock) w w' := by
  obtain ⟨J, hJ⟩ : ∃ J, J = txI (B s) (s.size - i) i := ⟨_, rfl⟩
  rw [← hJ]
  have HJ := Aside0.mk hJ
  have H := Aside0.mk h
  have HS := Aside0.mk hs
  have HI := Aside0.mk hi
  have HREF := Aside0.mk hR
  have HB0 := Aside0.mk hb0
  have HP := Aside0.mk hp
  obtain ⟨big, hbig⟩ : ∃ big : Int, big = 1073741824 := ⟨_, rfl⟩
  have hsb : (s.size : Int) < big := by omega
  have hbig2 : big ≤ 4611686018427387904 := by omega
  have HPL := Aside0.mk (show ∀ J, (part (B s) i J).length ≤ s.size from fun J => by have := part_le (B s) i J; rw [B_length] at this; exact this)
  have HRS := Aside0.mk (show ∀ (W : World) (j : Nat), Turned (fun k => k = b) w W → Calls Tryd.prog 40 #[.string (s.extract i j), .bool false] W fun e w' => e = .returned (.string (S (refs false (part (B s) i j)))) ∧ Below W.heap.size W w' from fun W j hW => by
    have := resolved_calls (s.extract i j) (by rw [← B_length, B_extract]; have := HPL.out j; unfold part at this; omega) false W (hR.turned hW (fun e => hb0 e.symm))
    rw [show B (s.extract i j) = part (B s) i j from B_extract s i j] at this
    exact this)
  have HTX := Aside0.mk (show ∀ (W : World) (j : Nat), ScanAt base ok W b s j a v o p out → Turned (fun k => k = b) w W → J = j → Calls Tryd.prog 41 #[.pointer (some ⟨b, 2, none⟩), .string (S (refs false (part (B s) i j)))] W fun e w' => e = .returned (.tuple #[.int .i64 (S (refs false (part (B s) i j))).size, .nilIface]) ∧ ∃ a' v', ScanAt base ok w' b s J a' v' o (p ++ refs false (part (B s) i J)) out ∧ Turned (fun k => k = b ∨ some k = v.ownBlock) w w' from fun W j hq ht htx => by
    subst htx
    have h1 := refs_len false (part (B s) i J)
    have h2 := HPL.out J
    refine (text_calls hq (S (refs false (part (B s) i J))) (by rw [S_size]; omega)).mono ?_
    rintro e w' ⟨v', rfl, h1, h2⟩
    rw [B_S (show ∀ b ∈ refs false (part (B s) i J), byte b from refsF_byte false _ _ (part_byte _ _ _))] at h1
    exact ⟨rfl, _, v', h1, (ht.mono (fun _ _ e => .inl e)).trans h2⟩)
  clear h hs hi hR hb0 hp hJ hbig
  go_enter Tryd.func48, Tryd.ntmps48
  have c1 := H.out.blk.c1
  go_wp2
  clear c1
  go_loopg [] (s.size + 1) (fun kq wr => ∃ (j : Nat), Aside0 (ScanAt base ok wr b s j a v o p out) ∧ Aside0 (txI (B s) (s.size - j) j = J ∧ j ≤ s.size ∧ s.size < j + kq ∧ i ≤ j) ∧ Aside0 (Turned (fun k => k = b) w wr))
  case atStart => exact ⟨i, H, ⟨HJ.out.symm, HI.out, by omega, Nat.le_refl _⟩, ⟨Turned.refl _ _⟩⟩
  case round =>
    obtain ⟨j, HC, HQ, HT⟩ := hrel
    have c0 := HC.out.blk.c0
    have c1 := HC.out.blk.c1
    have f1 := HC.out.blk.f1
    by_cases hj : j < s.size
    · obtain ⟨g, rfl⟩ : ∃ g, gk = g + 1 := ⟨gk - 1, by have := HQ.out.2.2.1; omega⟩
      have hd : decide (j < s.size) = true := decide_eq_true hj
      have hjj : (j : Int) < (s.size : Int) := by omega
      obtain ⟨r, hr⟩ : ∃ r, r = s.extract j s.size := ⟨_, rfl⟩
      have hbj : beg (B r) 0 = beg (B s) j := by rw [hr, B_rest, beg_drop _ _ (by rw [B_length]; omega)]
      have HREST := Aside0.mk (fun (W : World) (hb : Sc W b s j a v o) => by have := rest_calls s b j (by omega) a v o W hb; rw [← hr] at this; exact this)
      have HBEG := Aside0.mk (fun W => begins_calls r (by rw [hr, rest_size]; have := HS.out; omega) W)
      obtain ⟨bg, hbg⟩ : ∃ bg, bg = beg (B r) 0 := ⟨_, rfl⟩
      rw [← hbg] at HBEG hbj
      have HJ1 := Aside0.mk hj
      have HBJ := Aside0.mk hbj
      clear hj hr hbj hbg
      by_cases h0 : 0 < bg
      · have hd0 : decide (0 < (bg : Int)) = true := decide_eq_true (by omega)
        have hdn : decide (0 < bg) = true := decide_eq_true h0
        have HJE := Aside0.mk (show J = j by rw [← HQ.out.1, ← B_length]; exact txI_stop (by rw [B_length]; exact HJ1.out) (by rw [← HBJ.out]; omega))
        clear h0
        go_wp2
        go_quiet (fail)
        go_wp2_with (first | (go_at_call 36; refine (HREST.out _ (HC.out.blk.drewN _)).mono ?_; rintro e w2 ⟨rfl, n2, hw2⟩; have HC2 := Aside0.mk (show ScanAt base ok w2 b s j a v o p out by rw [hw2]; exact (HC.out.drewN _).drewN n2); have HT2 := Aside0.mk (show Turned (fun k => k = b) w w2 by rw [hw2]; exact (HT.out.drewN _).drewN n2); clear hw2) | (go_at_call 42; refine (HBEG.out _).mono ?_; rintro e w3 ⟨rfl, hb3⟩; have HC3 := Aside0.mk (HC2.out.under hb3); have HT3 := Aside0.mk (HT2.out.trans (Turned.of_below hb3)); have c13 := HC3.out.blk.c1; have f13 := HC3.out.blk.f1; clear hb3))
        have hij : (i : Int) ≤ (j : Int) := by have := HQ.out.2.2.2; omega
        have hjz : (j : Int) ≤ (s.size : Int) := by have := HQ.out.2.1; omega
        have k0 := HC3.out.blk.c0
        have k1 := HC3.out.blk.c1
        go_region_law (first | (refine goes_ Tryd.func40 (by kernel_rfl) rfl #[.string (s.extract i j), .bool false] (by rfl) rfl rfl (by (try simp only [List.map_toArray, List.map_cons, List.map_nil]); rfl) ?_; refine (HRS.out _ j (by exact HT3.out.drew)).mono ?_; rintro e w5 ⟨rfl, hb5⟩; refine ⟨_, rfl, ?_⟩; have HM5 := Aside0.mk ((HC3.out.drewN _).under hb5); have HT5 := Aside0.mk ((HT3.out.drewN _).trans (Turned.of_below hb5)); clear hb5) | (refine goes_ Tryd.func41 (by kernel_rfl) rfl #[.pointer (some ⟨b, 2, none⟩), .string (S (refs false (part (B s) i j)))] (by rfl) rfl rfl (by (try simp only [List.map_toArray, List.map_cons, List.map_nil]); rfl) ?_; refine (HTX.out _ j HM5.out HT5.out HJE.out).mono ?_; rintro e w6 ⟨rfl, h6⟩; refine ⟨_, rfl, ?_⟩; have H6 := Aside0.mk h6; clear h6))
        all_goals
          go_wp2
          obtain ⟨a', v', h11, h12⟩ := H6.out
          refine bodyPost_end (results_none rfl _ _ _) rfl ?_
          exact ⟨a', v', rfl, h11, h12⟩
      · have hd0 : decide (0 < (bg : Int)) = false := decide_eq_false (by omega)
        have hdn : decide (0 < bg) = false := decide_eq_false h0
        have HNX := Aside0.mk (show txI (B s) (s.size - (j + 1)) (j + 1) = J by rw [← HQ.out.1, ← B_length]; exact (txI_go (by rw [B_length]; exact HJ1.out) (by rw [← HBJ.out]; omega)).symm)
        clear h0
        go_wp2
        go_quiet (fail)
        go_wp2_with (first | (go_at_call 36; refine (HREST.out _ (HC.out.blk.drewN _)).mono ?_; rintro e w2 ⟨rfl, n2, hw2⟩; have HC2 := Aside0.mk (show ScanAt base ok w2 b s j a v o p out by rw [hw2]; exact (HC.out.drewN _).drewN n2); have HT2 := Aside0.mk (show Turned (fun k => k = b) w w2 by rw [hw2]; exact (HT.out.drewN _).drewN n2); clear hw2) | (go_at_call 42; refine (HBEG.out _).mono ?_; rintro e w3 ⟨rfl, hb3⟩; have HC3 := Aside0.mk (HC2.out.under hb3); have HT3 := Aside0.mk (HT2.out.trans (Turned.of_below hb3)); have c13 := HC3.out.blk.c1; have f13 := HC3.out.blk.f1; clear hb3))
        go_roundg g
        case measure => omega
        case rel => exact ⟨j + 1, ⟨HC3.out.at_ (j + 1)⟩, ⟨HNX.out, HJ1.out, by have := HQ.out.2.2.1; omega, by have := HQ.out.2.2.2; omega⟩, ⟨HT3.out.at_ _ _⟩⟩
    · have hd : decide (j < s.size) = false := decide_eq_false hj
      have hJJ : J = j := by
        have h1 := HQ.out.1
        have h2 := HQ.out.2.1
        have h3 : j = s.size := by omega
        rw [h3, Nat.sub_self] at h1
        rw [← h1, h3]
        rfl
      have HJE := Aside0.mk hJJ
      clear hj hJJ
      go_wp2
      go_quiet (fail)
      go_upto_region 4 with (fail)
      have hij : (i : Int) ≤ (j : Int) := by have := HQ.out.2.2.2; omega
      have hjz : (j : Int) ≤ (s.size : Int) := by have := HQ.out.2.1; omega
      have k0 := HC.out.blk.c0
      have k1 := HC.out.blk.c1
      go_region_law (first | (refine goes_ Tryd.func40 (by kernel_rfl) rfl #[.string (s.extract i j), .bool false] (by rfl) rfl rfl (by (try simp only [List.map_toArray, List.map_cons, List.map_nil]); rfl) ?_; refine (HRS.out _ j (by exact HT.out.drewN _)).mono ?_; rintro e w5 ⟨rfl, hb5⟩; refine ⟨_, rfl, ?_⟩; have HM5 := Aside0.mk ((HC.out.drewN _).under hb5); have HT5 := Aside0.mk ((HT.out.drewN _).trans (Turned.of_below hb5)); clear hb5) | (refine goes_ Tryd.func41 (by kernel_rfl) rfl #[.pointer (some ⟨b, 2, none⟩), .string (S (refs false (part (B s) i j)))] (by rfl) rfl rfl (by (try simp only [List.map_toArray, List.map_cons, List.map_nil]); rfl) ?_; refine (HTX.out _ j HM5.out HT5.out HJE.out).mono ?_; rintro e w6 ⟨rfl, h6⟩; refine ⟨_, rfl, ?_⟩; have H6 := Aside0.mk h6; clear h6))
      all_goals
        go_wp2
        obtain ⟨a', v', h11, h12⟩ := H6.out
        refine bodyPost_end (results_none rfl _ _ _) rfl ?_
        exact ⟨a', v', rfl, h11, h12⟩
end Go.Proofs.YtnjnoabldjodcaaDoor.Tok
set_option linter.unusedVariables false
set_option linter.unusedSimpArgs false
namespace Go.Proofs.YtnjnoabldjodcaaDoor.Tok
open Go.RowKit Go.Proofs.YtnjnoabldjodcaaDoorW.PrintWords Go.Proofs.YtnjnoabldjodcaaDoor.PFnExactTokens
theorem tagI_le (L : Bs) : ∀ (f i : Nat) (al : List A) (cl : Bool) (e : Nat), (tagI L f i al cl).2.2 = some e → e ≤ L.length
  | 0, i, al, cl, e, h => by simp [tagI] at h
  | f + 1, i, al, cl, e, h => by
    unfold tagI at h
    cases hb : L[ov L i]? with
    | none => rw [hb] at h; simp at h
    | some b =>
      have hl : ov L i < L.length := (List.getElem?_eq_some_iff.1 hb).1
      rw [hb] at h
      simp only at h
      split at h
      · simp at h; omega
      · split at h
        · exact tagI_le L f _ _ _ e h
        · split at h
          · split at h
            · simp at h
            · exact tagI_le L f _ _ _ e h
          · exact tagI_le L f _ _ _ e h
theorem tagOf_le {L : Bs} {i e : Nat} (h : (tagOf L i).2.2 = some e) : e ≤ L.length := tagI_le L _ _ _ _ e h
theorem behind_le {L : Bs} {i : Nat} (h : i ≤ L.length) : behind L i ≤ L.length := by
  unfold behind
  split <;> omega
theorem fd_le {L : Bs} {c : Int} {i : Nat} (h : i ≤ L.length) : fd L c i ≤ L.length := sp_to h
theorem commentI_le {L : Bs} {i : Nat} (h : i ≤ L.length) : (commentI L i).2 ≤ L.length := by
  unfold commentI
  split
  · rename_i hp
    have := pre_length hp
    rw [List.length_drop] at this
    simp at this ⊢
    omega
  · split
    · rename_i hp
      have := pre_length hp
      rw [List.length_drop] at this
      simp at this ⊢
      omega
    · rw [cm_R L _ _ (by omega)]
      simp only
      have := cmR_le (L.drop i)
      rw [List.length_drop] at this
      omega
theorem beg_cases (L : Bs) (i : Nat) : beg L i = 0 ∨ beg L i = 2 ∨ beg L i = 3 ∨ beg L i = 4 ∨ beg L i = 5 ∨ beg L i = 6 ∨ beg L i = 7 := by
  unfold beg
  split
  · split
    · simp
    · split
      · simp
      · split
        · simp
        · split
          · simp
          · split
            · simp
            · split
              · simp
              · split
                · simp
                · split
                  · simp
                  · split <;> simp
  · simp
theorem beg_next {L : Bs} {i : Nat} (h : beg L i ≠ 0) : i + 1 < L.length := by
  have := Classical.byContradiction fun hc => h ((beg_zero L i).2 hc)
  obtain ⟨_, h2⟩ := this
  unfold opens at h2
  cases h3 : L[i + 1]? with
  | none => rw [h3] at h2; cases h2
  | some c => exact (List.getElem?_eq_some_iff.1 h3).1
theorem beg_4 {L : Bs} {i : Nat} (h : beg L i = 4) : i + 4 ≤ L.length := by
  unfold beg at h
  split at h
  · split at h
    · simp at h
    · split at h
      · simp at h
      · split at h
        · rename_i hp
          have := pre_length hp
          rw [List.length_drop] at this
          simp at this
          omega
        · split at h
          · simp at h
          · split at h
            · simp at h
            · split at h
              · simp at h
              · split at h
                · simp at h
                · split at h
                  · simp at h
                  · split at h <;> simp at h
  · simp at h
theorem beg_5 {L : Bs} {i : Nat} (h : beg L i = 5) : i + 9 ≤ L.length := by
  unfold beg at h
  split at h
  · split at h
    · simp at h
    · split at h
      · simp at h
      · split at h
        · simp at h
        · split at h
          · rename_i hd
            unfold isDoc at hd
            simp at hd
            omega
          · split at h
            · simp at h
            · split at h
              · simp at h
              · split at h
                · simp at h
                · split at h
                  · simp at h
                  · split at h <;> simp at h
  · simp at h
theorem beg_37 {L : Bs} {i : Nat} (h : beg L i = 3 ∨ beg L i = 7) : i + 2 < L.length := by
  unfold beg at h
  split at h
  · split at h
    · simp at h
    · split at h
      · simp at h
      · split at h
        · simp at h
        · split at h
          · simp at h
          · split at h
            · simp at h
            · split at h
              · simp at h
              · split at h
                · simp at h
                · rename_i hd
                  exact (List.getElem?_eq_some_iff.1 hd).1
  · simp at h
section
variable {L : Bs} {i : Nat} {raw p : Bs} {out : List T}
theorem it_end (f : Nat) (h : L.length ≤ i) : implTok L f i [] p out = out ++ fl p := by
  cases f with
  | zero => rfl
  | succ f =>
    simp only [implTok]
    rw [if_neg (by rw [rawKind_nil]; omega), if_neg (by omega)]
theorem it_0 (hr : ¬ 0 < rawKind raw) (hi : i < L.length) (h : beg L i = 0) (f : Nat) : implTok L (f + 1) i raw p out = implTok L f (txI L (L.length - i) i) [] (p ++ refs false (part L i (txI L (L.length - i) i))) out := by
  simp only [implTok]
  rw [if_neg hr, if_pos hi, h, txI_go hi h]
  rfl
theorem it_2 (hr : ¬ 0 < rawKind raw) (hi : i < L.length) (h : beg L i = 2) {al : List A} {cl : Bool} {e : Nat} (ht : tagOf L (i + 1) = (al, cl, some e)) (f : Nat) : implTok L (f + 1) i raw p out = implTok L f e (B (nameOf L (i + 1))) [] (out ++ fl p ++ [⟨2, nameOf L (i + 1), al, ⟨#[]⟩, cl⟩]) := by
  simp only [implTok]
  rw [if_neg hr, if_pos hi, h]
  simp only
  rw [ht]
  rfl
theorem it_2n (hr : ¬ 0 < rawKind raw) (hi : i < L.length) (h : beg L i = 2) (ht : (tagOf L (i + 1)).2.2 = none) (f : Nat) : implTok L (f + 1) i raw p out = implTok L f L.length [] p out := by
  rw [it_end f (Nat.le_refl _)]
  simp only [implTok]
  rw [if_neg hr, if_pos hi, h]
  simp only
  obtain ⟨q, hq⟩ : ∃ q, tagOf L (i + 1) = q := ⟨_, rfl⟩
  rw [hq] at ht ⊢
  obtain ⟨al, cl, e⟩ := q
  simp only at ht
  subst ht
  rfl
theorem it_3 (hr : ¬ 0 < rawKind raw) (hi : i < L.length) (h : beg L i = 3) {e : Nat} (ht : (tagOf L (i + 2)).2.2 = some e) (f : Nat) : implTok L (f + 1) i raw p out = implTok L f e [] [] (out ++ fl p ++ [⟨3, nameOf L (i + 2), [], ⟨#[]⟩, false⟩]) := by
  simp only [implTok]
  rw [if_neg hr, if_pos hi, h]
  simp only
  obtain ⟨q, hq⟩ : ∃ q, tagOf L (i + 2) = q := ⟨_, rfl⟩
  rw [hq] at ht ⊢
  obtain ⟨al, cl, e⟩ := q
  simp only at ht
  subst ht
  rfl
theorem it_3n (hr : ¬ 0 < rawKind raw) (hi : i < L.length) (h : beg L i = 3) (ht : (tagOf L (i + 2)).2.2 = none) (f : Nat) : implTok L (f + 1) i raw p out = implTok L f L.length [] p out := by
  rw [it_end f (Nat.le_refl _)]
  simp only [implTok]
  rw [if_neg hr, if_pos hi, h]
  simp only
  obtain ⟨q, hq⟩ : ∃ q, tagOf L (i + 2) = q := ⟨_, rfl⟩
  rw [hq] at ht ⊢
  obtain ⟨al, cl, e⟩ := q
  simp only at ht
  subst ht
  rfl
theorem it_4 (hr : ¬ 0 < rawKind raw) (hi : i < L.length) (h : beg L i = 4) (f : Nat) : implTok L (f + 1) i raw p out = implTok L f (commentI L (i + 4)).2 [] [] (out ++ fl p ++ [⟨4, ⟨#[]⟩, [], S (commentI L (i + 4)).1, false⟩]) := by
  simp only [implTok]
  rw [if_neg hr, if_pos hi, h]
  rfl
theorem it_5 (hr : ¬ 0 < rawKind raw) (hi : i < L.length) (h : beg L i = 5) (f : Nat) : implTok L (f + 1) i raw p out = implTok L f (behind L (fd L 62 (i + 9))) [] [] (out ++ fl p ++ [⟨5, docName (part L (i + 9) (fd L 62 (i + 9))), [], ⟨#[]⟩, false⟩]) := by
  simp only [implTok]
  rw [if_neg hr, if_pos hi, h]
  rfl
theorem it_6 (hr : ¬ 0 < rawKind raw) (hi : i < L.length) (h : beg L i = 6) {j : Nat} (hj : (if L[i + 1]? = some 63 then i + 1 else i + 2) = j) (f : Nat) : implTok L (f + 1) i raw p out = implTok L f (behind L (fd L 62 j)) [] [] (out ++ fl p ++ [⟨4, ⟨#[]⟩, [], S (part L j (fd L 62 j)), false⟩]) := by
  simp only [implTok]
  rw [if_neg hr, if_pos hi, h]
  simp only
  rw [hj]
  rfl
theorem it_7 (hr : ¬ 0 < rawKind raw) (hi : i < L.length) (h : beg L i = 7) (f : Nat) : implTok L (f + 1) i raw p out = implTok L f (i + 3) [] p out := by
  simp only [implTok]
  rw [if_neg hr, if_pos hi, h]
  rfl
theorem it_raw (hr : 0 < rawKind raw) (f : Nat) : implTok L (f + 1) i raw p out = implTok L f (clI L raw (L.length - i) i) [] (p ++ rawText raw (part L i (clI L raw (L.length - i) i))) out := by
  simp only [implTok]
  rw [if_pos hr]
end
end Go.Proofs.YtnjnoabldjodcaaDoor.Tok
set_option linter.unusedVariables false
set_option linter.unusedSimpArgs false
namespace Go.Proofs.YtnjnoabldjodcaaDoor.Tok
open Go.RowKit Go.Proofs.YtnjnoabldjodcaaDoorW.PrintWords Go.Proofs.YtnjnoabldjodcaaDoor.PFnExactTokens
theorem tagI_attrs (L : Bs) : ∀ (f i : Nat) (al : List A) (cl : Bool), (tagI L f i al cl).1.length ≤ al.length + f
  | 0, i, al, cl => by simp [tagI]
  | f + 1, i, al, cl => by
    unfold tagI
    split
    · simp only; omega
    · split
      · simp only; omega
      · split
        · have := tagI_attrs L f (ov L i + 1) al (cl || pre [62] (L.drop (ov L i + 1)))
          omega
        · split
          · split
            · simp only; omega
            · rename_i v j _
              have h1 := tagI_attrs L f j (addA al ⟨S (low (part L (ov L i) (un L [47, 62, 61] (ov L i + 1)))), S v⟩) cl
              have h2 := addA_length al ⟨S (low (part L (ov L i) (un L [47, 62, 61] (ov L i + 1)))), S v⟩
              omega
          · have h1 := tagI_attrs L f (ov L (un L [47, 62, 61] (ov L i + 1))) (addA al ⟨S (low (part L (ov L i) (un L [47, 62, 61] (ov L i + 1)))), S []⟩) cl
            have h2 := addA_length al ⟨S (low (part L (ov L i) (un L [47, 62, 61] (ov L i + 1)))), S []⟩
            omega
theorem tagOf_attrs (L : Bs) (i : Nat) {al : List A} {cl : Bool} {e : Option Nat} (h : tagOf L i = (al, cl, e)) : al.length ≤ L.length + 1 := by
  have := tagI_attrs L (L.length + 1) (un L [47, 62] i) [] false
  have h2 : tagI L (L.length + 1) (un L [47, 62] i) [] false = (al, cl, e) := h
  rw [h2] at this
  simpa using this
def Fit (N r : Nat) (out : List T) : Prop := out.length ≤ r ∧ ∀ x ∈ out, x.f2.length ≤ N
theorem Fit.more {N r r' : Nat} {out : List T} (h : Fit N r out) (hr : r ≤ r') : Fit N r' out := ⟨Nat.le_trans h.1 hr, h.2⟩
theorem Fit.fl {N r : Nat} {out : List T} (h : Fit N r out) (p : Bs) : Fit N (r + 1) (out ++ fl p) := by
  refine ⟨by have := fl_length p; rw [List.length_append]; have := h.1; omega, fun x hx => ?_⟩
  rcases List.mem_append.1 hx with hx | hx
  · exact h.2 x hx
  · unfold Tok.fl at hx
    split at hx
    · cases hx
    · rw [List.mem_singleton.1 hx]
      exact Nat.zero_le _
where
  fl_length (p : Bs) : (Tok.fl p).length ≤ 1 := by unfold Tok.fl; split <;> simp
theorem Fit.snoc {N r : Nat} {out : List T} (h : Fit N r out) {x : T} (hx : x.f2.length ≤ N) : Fit N (r + 1) (out ++ [x]) := by
  refine ⟨by have := h.1; simp; omega, fun y hy => ?_⟩
  rcases List.mem_append.1 hy with hy | hy
  · exact h.2 y hy
  · rw [List.mem_singleton.1 hy]
    exact hx
theorem it_fit (L : Bs) : ∀ (f i : Nat) (raw p : Bs) (out : List T) (r : Nat), Fit (L.length + 1) r out → Fit (L.length + 1) (r + 2 * f + 1) (implTok L f i raw p out)
  | 0, i, raw, p, out, r, h => (h.fl p).more (by omega)
  | f + 1, i, raw, p, out, r, h => by
    have hN : ∀ x : T, x.f2 = [] → x.f2.length ≤ L.length + 1 := fun x e => by rw [e]; exact Nat.zero_le _
    have hsn : ∀ (i' : Nat) (raw' : Bs) (x : T), x.f2.length ≤ L.length + 1 → Fit (L.length + 1) (r + 2 * (f + 1) + 1) (implTok L f i' raw' [] (out ++ fl p ++ [x])) := fun i' raw' x hx => (it_fit L f i' raw' [] _ (r + 1 + 1) ((h.fl p).snoc hx)).more (by omega)
    have hgo : ∀ (i' : Nat) (p' : Bs), Fit (L.length + 1) (r + 2 * (f + 1) + 1) (implTok L f i' [] p' out) := fun i' p' => (it_fit L f i' [] p' out r h).more (by omega)
    have hend : Fit (L.length + 1) (r + 2 * (f + 1) + 1) (out ++ fl p) := (h.fl p).more (by omega)
    simp only [implTok]
    split
    · exact hgo _ _
    · split
      · split
        · split
          · exact hend
          · rename_i al cl e ht
            exact hsn _ _ _ (tagOf_attrs L _ ht)
        · split
          · exact hend
          · exact hsn _ _ _ (hN _ rfl)
        · exact hsn _ _ _ (hN _ rfl)
        · exact hsn _ _ _ (hN _ rfl)
        · exact hsn _ _ _ (hN _ rfl)
        · exact hgo _ _
        · exact hgo _ _
      · exact hend
end Go.Proofs.YtnjnoabldjodcaaDoor.Tok
