/- Part 12 of the proof: TokRun, TokLow. -/
import Derived.Test.YtnjnoabldjodcaaDoorA11
set_option linter.unusedVariables false
set_option linter.unusedSimpArgs false
namespace Go.Proofs.YtnjnoabldjodcaaDoor.Tok
open Go.RowKit Go.Proofs.YtnjnoabldjodcaaDoorW.PrintWords Go.Proofs.YtnjnoabldjodcaaDoorW.PrintLast Go.Proofs.YtnjnoabldjodcaaDoorW.PrintMore Go.Proofs.YtnjnoabldjodcaaDoor.PFnExactTokens
structure TokAt (w wr : World) (v : Value) (out : List T) : Prop where
  row : TokRow wr w.heap.size v out
  below : Below w.heap.size w wr
theorem TokAt.under {w wr w8 : World} {v : Value} {out : List T} (h : TokAt w wr v out) (hb : Below wr.heap.size wr w8) : TokAt w w8 v out := ⟨Kd.R_below h.row hb, below_step h.below hb⟩
theorem TokAt.lit {w : World} : TokAt w (w.alloc (.cells #[] 36)) (.slice (some ⟨w.heap.size, 0, none⟩) 0 0) [] := by
  refine ⟨?_, (Below.refl _ w).alloc (Nat.le_refl _) _⟩
  refine ⟨fun _ _ => trivial, [], ⟨by simp, .inr ⟨w.heap.size, 0, #[], rfl, Nat.le_refl _, (show (w.heap.push _)[w.heap.size]? = _ by simp), Nat.le_refl _, Nat.zero_le _, by simp, by simp⟩⟩, ?_⟩
  exact Reps.none _ _
theorem clI_le (L nm : Bs) : ∀ (d i : Nat), i + d ≤ L.length → clI L nm d i ≤ L.length
  | 0, _, _ => Nat.le_refl _
  | d + 1, i, h => by
    unfold clI
    split
    · split
      · omega
      · exact clI_le L nm d (i + 1) (by omega)
    · exact Nat.le_refl _
theorem TokAt.fits {w wr : World} {v : Value} {out : List T} {r : Nat} (h : TokAt w wr v out) (hs : Small 1048576 out r) (hr : r ≤ 400000) (t : ByteArray) (ht : t.size < 2 ^ 40) :
    Calls Tryd.prog 12 #[v, .string t] wr fun e w' => ∃ v', e = .returned v' ∧ TokAt w w' v' (addText out (B t)) :=
  (l2Text_calls w.heap.size w wr v out t h.row h.below h.below.size (by have := hs.1; omega) ht (fun x hx => by have := hs.2 x hx; have := Nat.mul_le_mul_right 1048576 hr; omega)).mono fun e w' h => by
    obtain ⟨v', h1, h2, h3⟩ := h
    exact ⟨v', h1, h2, h3⟩
theorem TokAt.put {w wc w8 W : World} {v v2 : Value} {out : List T} {x : T} (h : TokAt w wc v out) (hx : Kd.R k62 62 w8 wc.heap.size (fun _ => True) v2 x.f2) (hb : Below wc.heap.size wc w8) (hb2 : Below w8.heap.size w8 W) :
    TokAt w W v out ∧ k36.M W w.heap.size (fun k => some k ≠ v.ownBlock) x [.int .i64 x.f0, .string x.f1, v2, .string x.f3, .bool x.f4] := by
  refine ⟨(h.under hb).under hb2, k36_mkM _ _ _ x (Kd.R_below ?_ hb2)⟩
  refine Kd.R_lower (Kd.R_mono (Kd.R_bound hx) (fun k hk e => ?_)) h.below.size
  obtain ⟨inner, ho⟩ := Kd.R_own h.row
  have := own_lt ho k e.symm
  have := hk.2.1
  omega
theorem Small.next {out : List T} {F f : Nat} (h : Small 1048576 out (F - (f + 1) + 1)) (hf : f + 1 ≤ F) : Small 1048576 out (F - f) := by
  rwa [show F - f = F - (f + 1) + 1 from by omega]
def rest (L : Bs) (i : Nat) (raw : Bs) : Nat := 2 * (L.length - i) + (if 0 < rawKind raw then 1 else 0)
theorem below_one (w : World) (o : Obj) : Below w.heap.size w (w.alloc o) := (Below.refl _ w).alloc (Nat.le_refl _) o
theorem commentI_size (L : Bs) (i : Nat) : (commentI L i).1.length ≤ L.length := by
  unfold commentI
  split
  · simp
  · split
    · simp
    · exact part_le _ _ _
theorem markupI_size (L : Bs) (i : Nat) : (tk (markupI L i).1).f3.size ≤ L.length := by
  unfold markupI
  split
  · show (S _).size ≤ _; rw [S_size]; exact commentI_size L (i + 4)
  · split
    · show (S _).size ≤ _; rw [S_size]; simp
    · split
      · show (S _).size ≤ _; rw [S_size]; exact part_le _ _ _
      · show (S _).size ≤ _; rw [S_size]; exact part_le _ _ _
theorem nameOf_size (L : Bs) (i : Nat) : (nameOf L i).size ≤ L.length := by
  unfold nameOf
  rw [S_size]
  unfold low
  rw [List.length_map]
  exact part_le _ _ _
theorem cell_kept {w wc w9 w10 : World} {v : Value} {out : List T} {cs : Array Value} {t : TypeId} (h : TokAt w wc v out) (hb : Below wc.heap.size wc w9) (hg : (w9.alloc (.cells cs t)).grownBy w10 v.ownBlock) (j : Nat) (u : Value) (hj : cs[j]? = some u) : w10.cell? ⟨w9.heap.size, j, none⟩ = some u := by
  have hblk : w10.heap[w9.heap.size]? = some (.cells cs t (0, 0)) := by
    rw [hg.block w9.heap.size (by simp) (fun e => ?_)]
    · show (w9.heap.push _)[w9.heap.size]? = _
      simp
    · obtain ⟨inner, ho⟩ := Kd.R_own h.row
      have := own_lt ho _ e.symm
      have := hb.size
      omega
  exact (blk_cell hblk j).trans hj
theorem rest_step {L raw raw' : Bs} {i i' f : Nat} (h : rest L i raw < f + 1) (hi : i < L.length) (hii : i < i') : rest L i' raw' < f := by
  unfold rest at h ⊢
  split <;> split at h <;> omega
theorem txI_at {L : Bs} {j : Nat} (h : j < L.length) : txI L (L.length - j) j = if L[j]? = some 60 ∧ opens L j = true then j else txI L (L.length - (j + 1)) (j + 1) := by
  obtain ⟨d, hd⟩ : ∃ d, L.length - j = d + 1 := ⟨L.length - j - 1, by omega⟩
  rw [hd, show L.length - (j + 1) = d from by omega]
  simp only [txI]
theorem txI_le (L : Bs) : ∀ (d j : Nat), txI L d j ≤ j + d
  | 0, j => Nat.le_refl _
  | d + 1, j => by
    unfold txI
    split
    · omega
    · have := txI_le L d (j + 1); omega
set_option maxHeartbeats 8000000 in
set_option maxRecDepth 100000 in
theorem specTokens_calls (s raw : ByteArray) (w : World) (hs : s.size ≤ 180000) (hraw : raw.size < 2 ^ 40) : Calls Tryd.prog 4 #[.string s, .string raw] w fun e w' => ∃ v, e = .returned v ∧ TokAt w w' v (specTok (B s) (2 * s.size + 2) 0 (B raw) []) := by
  obtain ⟨F, hF⟩ : ∃ F, F = 2 * s.size + 2 := ⟨_, rfl⟩
  rw [← hF]
  have HF := Aside0.mk hF
  obtain ⟨R, hR⟩ : ∃ R, R = specTok (B s) F 0 (B raw) [] := ⟨_, rfl⟩
  rw [← hR]
  have HR := Aside0.mk hR
  have HRAW := Aside0.mk hraw
  clear hF hR hraw
  go_enter Tryd.func4, Tryd.ntmps4
  go_upto_region 5 with (fail)
  have hlit := TokAt.lit (w := w)
  generalize hw1 : World.alloc _ _ = w1
  rw [hw1] at hlit
  have HL := Aside0.mk hlit
  clear hw1 hlit
  go_loopg [1, 5, 6] F (fun kq v1 v5 v6 wr => ∃ (rw_ : ByteArray) (i : Nat) (out : List T), v1 = .string rw_ ∧ v6 = .int .i64 i ∧ Aside0 (TokAt w wr v5 out) ∧ Aside0 (specTok (B s) kq i (B rw_) out = R) ∧ Aside0 (Small 1048576 out (F - kq) ∧ kq ≤ F ∧ rest (B s) i (B rw_) < kq ∧ rw_.size < 2 ^ 40))
  case atStart => exact ⟨raw, 0, [], rfl, rfl, HL, ⟨HR.out.symm⟩, ⟨⟨⟨by simp, by simp⟩, Nat.le_refl _, by have := HF.out; unfold rest; rw [B_length]; split <;> omega, HRAW.out⟩⟩⟩
  case round =>
    obtain ⟨rw_, i, out, rfl, rfl, HTA, HSP, HSM⟩ := hrel
    have hL : (B s).length = s.size := B_length s
    by_cases hi : i < s.size
    · obtain ⟨f, rfl⟩ : ∃ f, gk = f + 1 := ⟨gk - 1, by have := HSM.out.2.2.1; omega⟩
      have hsp := HSP.out
      simp only [specTok] at hsp
      rw [if_pos (by rw [hL]; exact hi)] at hsp
      have hd0 : decide ((i : Int) < (s.size : Int)) = true := decide_eq_true (by omega)
      have HI := Aside0.mk hi
      have HGI := Aside0.mk (HSM.out.2.1)
      by_cases hrk : 0 < rawKind (B rw_)
      · rw [if_pos hrk] at hsp
        obtain ⟨E, hE⟩ : ∃ E, E = clI (B s) (B rw_) (s.size - i) i := ⟨_, rfl⟩
        rw [hL, ← hE] at hsp
        have hE0 : i ≤ E := by rw [hE]; exact clI_ge _ _ _ _ (by omega)
        have hE1 : E ≤ s.size := by rw [hE, ← hL]; exact clI_le _ _ _ _ (by omega)
        have HE := Aside0.mk hE
        have HSP := Aside0.mk hsp
        have HRS := Aside0.mk (show rest (B s) E [] < f by have h := HSM.out.2.2.1; unfold rest at h ⊢; rw [hL] at h ⊢; rw [if_pos hrk] at h; rw [rawKind_nil]; simp; omega)
        obtain ⟨kv, hkv⟩ : ∃ kv, kv = rawKind (B rw_) := ⟨_, rfl⟩
        rw [← hkv] at hrk
        have hk0 : decide (0 < kv) = true := decide_eq_true hrk
        have HKV := Aside0.mk hkv
        have hpart : B (s.extract i E) = part (B s) i E := B_extract s i E
        have hpl : (part (B s) i E).length ≤ 180000 := by have := part_le (B s) i E; omega
        have HP := Aside0.mk (And.intro hpart hpl)
        clear hE hsp hL hkv hrk hpart hpl
        by_cases h2 : kv = 2
        · have hd2 : (kv == 2) = true := beq_iff_eq.2 h2
          have H2 := Aside0.mk h2
          clear h2
          go_wp2_with (first | (go_at_call 9; refine (rawKind_calls rw_ _).mono ?_; rintro e w5 ⟨rfl, hb5⟩; rw [← HKV.out]; have HTA := Aside0.mk (HTA.out.under hb5); clear hb5) | (go_at_call 10; refine (close_calls s rw_ (by omega) HSM.out.2.2.2 i (by omega) _).mono ?_; rintro e w6 ⟨rfl, hb6⟩; rw [← HE.out]; have HTA := Aside0.mk (HTA.out.under hb6); clear hb6) | (go_at_call 11; refine (refs_calls (s.extract i E) (by rw [← B_length, HP.out.1]; have := HP.out.2; omega) false _).mono ?_; rintro e w7 ⟨rfl, hb7⟩; rw [HP.out.1]; have HTA := Aside0.mk (HTA.out.under hb7); clear hb7) | (go_at_call 12; refine (HTA.out.fits HSM.out.1 (by have := HF.out; omega) (S (refs false (part (B s) i E))) (by rw [S_size]; have := refs_len false (part (B s) i E); have := HP.out.2; omega)).mono ?_; rintro e w8 ⟨v8, rfl, ht8⟩; have HTA8 := Aside0.mk ht8; clear ht8))
          go_roundg f
          case measure => omega
          case rel => exact ⟨⟨#[]⟩, E, _, rfl, rfl, HTA8, ⟨by have h := HSP.out; unfold rawText at h; rw [← HKV.out, if_pos H2.out] at h; rw [B_S (show ∀ b ∈ refs false (part (B s) i E), byte b from refsF_byte false _ _ (part_byte s i E))]; exact h⟩, ⟨Small.next (Small.text HSM.out.1 (by rw [B_length, S_size]; have := refs_len false (part (B s) i E); have := HP.out.2; omega)) HSM.out.2.1, by have := HSM.out.2.1; omega, HRS.out, by decide⟩⟩
        · have hd2 : (kv == 2) = false := beq_eq_false_iff_ne.2 h2
          have H2 := Aside0.mk h2
          clear h2
          go_wp2_with (first | (go_at_call 9; refine (rawKind_calls rw_ _).mono ?_; rintro e w5 ⟨rfl, hb5⟩; rw [← HKV.out]; have HTA := Aside0.mk (HTA.out.under hb5); clear hb5) | (go_at_call 10; refine (close_calls s rw_ (by omega) HSM.out.2.2.2 i (by omega) _).mono ?_; rintro e w6 ⟨rfl, hb6⟩; rw [← HE.out]; have HTA := Aside0.mk (HTA.out.under hb6); clear hb6) | (go_at_call 12; refine (HTA.out.fits HSM.out.1 (by have := HF.out; omega) (s.extract i E) (by rw [← B_length, HP.out.1]; have := HP.out.2; omega)).mono ?_; rintro e w8 ⟨v8, rfl, ht8⟩; have HTA8 := Aside0.mk ht8; clear ht8))
          go_roundg f
          case measure => omega
          case rel => exact ⟨⟨#[]⟩, E, _, rfl, rfl, HTA8, ⟨by have h := HSP.out; unfold rawText at h; rw [← HKV.out, if_neg H2.out] at h; rw [HP.out.1]; exact h⟩, ⟨Small.next (Small.text HSM.out.1 (by rw [HP.out.1]; have := HP.out.2; omega)) HSM.out.2.1, by have := HSM.out.2.1; omega, HRS.out, by decide⟩⟩
      · rw [if_neg hrk] at hsp
        have hk0 : decide (0 < rawKind (B rw_)) = false := decide_eq_false hrk
        obtain ⟨kv, hkv⟩ : ∃ kv, kv = rawKind (B rw_) := ⟨_, rfl⟩
        rw [← hkv] at hk0
        have HKV := Aside0.mk (And.intro hkv hrk)
        clear hkv hrk
        obtain ⟨b0, hb0⟩ : ∃ b0, b0 = bt s (i : Int) := ⟨_, rfl⟩
        have hx0 : ∀ h : i < s.size, ((s[i]'h).toNat : Int) = b0 := fun h => by rw [hb0]; exact bt_at s (i : Int) h
        have hg0 : (B s)[i]? = some b0 := by rw [hb0]; exact B_get s i hi
        have HG0 := Aside0.mk hg0
        clear hb0 hg0
        by_cases c60 : b0 = 60
        · have hd60 : (b0 != 60) = false := bne_eq_false_iff_eq.2 c60
          cases hop : opens (B s) i with
          | false =>
            rw [if_neg (by rw [hop]; simp)] at hsp
            have HOP := Aside0.mk hop
            clear hop c60
            obtain ⟨E, hE⟩ : ∃ E, E = txI (B s) (s.size - (i + 1)) (i + 1) := ⟨_, rfl⟩
            rw [hL, ← hE] at hsp
            have hE0 : i + 1 ≤ E := by rw [hE]; exact txI_ge _ _ _
            have hE1 : E ≤ s.size := by rw [hE]; have := txI_le (B s) (s.size - (i + 1)) (i + 1); omega
            have hE2 : i ≤ E := by omega
            have HSP := Aside0.mk hsp
            have HE := Aside0.mk hE
            have HP := Aside0.mk (And.intro (show B (s.extract i E) = part (B s) i E from B_extract s i E) (show (part (B s) i E).length ≤ 180000 by have := part_le (B s) i E; omega))
            clear hE hsp hL
            go_upto_region 16 with (first | (go_at_call 9; refine (rawKind_calls rw_ _).mono ?_; rintro e w5 ⟨rfl, hb5⟩; rw [← HKV.out.1]; have HTA := Aside0.mk (HTA.out.under hb5); clear hb5) | (go_at_call 13; refine (opens_calls s (by omega) i (by omega) _).mono ?_; rintro e w6 ⟨rfl, hb6⟩; rw [HOP.out]; have HTA := Aside0.mk (HTA.out.under hb6); clear hb6))
            rename World => wU
            go_loopg [9] (s.size + 1) (fun kq v9 wq => ∃ j : Nat, v9 = .int .i64 j ∧ Aside0 (txI (B s) (s.size - j) j = E ∧ i + 1 ≤ j ∧ j ≤ s.size ∧ s.size - j < kq) ∧ Aside0 (TokAt w wq u5 out))
            case atStart => exact ⟨i + 1, rfl, ⟨HE.out.symm, Nat.le_refl _, by omega, by omega⟩, HTA⟩
            case round =>
              obtain ⟨j, rfl, HJ, HTJ⟩ := hrel
              by_cases hj : j < s.size
              · obtain ⟨g, rfl⟩ : ∃ g, gk = g + 1 := ⟨gk - 1, by have := HJ.out.2.2.2; omega⟩
                have hjl : j < (B s).length := by rw [B_length]; exact hj
                have hx := HJ.out.1
                rw [← B_length, txI_at hjl, B_length] at hx
                have hd1 : decide (j < s.size) = true := decide_eq_true hj
                obtain ⟨bj, hbj⟩ : ∃ bj, bj = bt s (j : Int) := ⟨_, rfl⟩
                have hxj : ∀ h : j < s.size, ((s[j]'h).toNat : Int) = bj := fun h => by rw [hbj]; exact bt_at s (j : Int) h
                have hgj : (B s)[j]? = some bj := by rw [hbj]; exact B_get s j hj
                clear hbj hjl
                rw [hgj] at hx
                clear hgj
                by_cases c : bj = 60
                · have hdj : (bj == 60) = true := beq_iff_eq.2 c
                  cases hoj : opens (B s) j with
                  | true =>
                    have HOJ := Aside0.mk hoj
                    rw [if_pos ⟨by rw [c], hoj⟩] at hx
                    subst hx
                    clear hoj c
                    go_wp2_with (first | (go_at_call 13; refine (opens_calls s (by omega) j (by omega) _).mono ?_; rintro e w6 ⟨rfl, hb6⟩; rw [HOJ.out]; have HTJ := Aside0.mk (HTJ.out.under hb6); clear hb6) | (go_at_call 11; refine (refs_calls (s.extract i j) (by rw [← B_length, HP.out.1]; have := HP.out.2; omega) false _).mono ?_; rintro e w7 ⟨rfl, hb7⟩; rw [HP.out.1]; have HTJ := Aside0.mk (HTJ.out.under hb7); clear hb7) | (go_at_call 12; refine (HTJ.out.fits HSM.out.1 (by have := HF.out; omega) (S (refs false (part (B s) i j))) (by rw [S_size]; have := refs_len false (part (B s) i j); have := HP.out.2; omega)).mono ?_; rintro e w8 ⟨v8, rfl, ht8⟩; have HTA8 := Aside0.mk ht8; clear ht8))
                    go_roundg f
                    case measure => omega
                    case rel => exact ⟨rw_, j, _, rfl, rfl, HTA8, ⟨by rw [B_S (show ∀ b ∈ refs false (part (B s) i j), byte b from refsF_byte false _ _ (part_byte s i j))]; exact HSP.out⟩, ⟨Small.next (Small.text HSM.out.1 (by rw [B_length, S_size]; have := refs_len false (part (B s) i j); have := HP.out.2; omega)) HSM.out.2.1, by have := HSM.out.2.1; omega, rest_step HSM.out.2.2.1 (by rw [B_length]; exact HI.out) (by omega), HSM.out.2.2.2⟩⟩
                  | false =>
                    have HOJ := Aside0.mk hoj
                    rw [if_neg (by rw [hoj]; simp)] at hx
                    have HX := Aside0.mk hx
                    clear hoj c hx
                    go_wp2_with ((go_at_call 13; refine (opens_calls s (by omega) j (by omega) _).mono ?_; rintro e w6 ⟨rfl, hb6⟩; rw [HOJ.out]; have HTJ := Aside0.mk (HTJ.out.under hb6); clear hb6))
                    go_roundg g
                    case measure => omega
                    case rel => exact ⟨j + 1, rfl, ⟨HX.out, by have := HJ.out.2.1; omega, by omega, by have := HJ.out.2.2.2; omega⟩, HTJ⟩
                · have hdj : (bj == 60) = false := beq_eq_false_iff_ne.2 c
                  rw [if_neg (by rintro ⟨h, _⟩; injection h with h; exact c h)] at hx
                  have HX := Aside0.mk hx
                  clear c hx
                  go_wp2
                  go_roundg g
                  case measure => omega
                  case rel => exact ⟨j + 1, rfl, ⟨HX.out, by have := HJ.out.2.1; omega, by omega, by have := HJ.out.2.2.2; omega⟩, HTJ⟩
              · have hx : j = E := by have h := HJ.out.1; have := HJ.out.2.2.1; rw [show s.size - j = 0 from by omega] at h; exact h
                subst hx
                have hd1 : decide (j < s.size) = false := decide_eq_false hj
                go_wp2_with (first | (go_at_call 11; refine (refs_calls (s.extract i j) (by rw [← B_length, HP.out.1]; have := HP.out.2; omega) false _).mono ?_; rintro e w7 ⟨rfl, hb7⟩; rw [HP.out.1]; have HTJ := Aside0.mk (HTJ.out.under hb7); clear hb7) | (go_at_call 12; refine (HTJ.out.fits HSM.out.1 (by have := HF.out; omega) (S (refs false (part (B s) i j))) (by rw [S_size]; have := refs_len false (part (B s) i j); have := HP.out.2; omega)).mono ?_; rintro e w8 ⟨v8, rfl, ht8⟩; have HTA8 := Aside0.mk ht8; clear ht8))
                go_roundg f
                case measure => omega
                case rel => exact ⟨rw_, j, _, rfl, rfl, HTA8, ⟨by rw [B_S (show ∀ b ∈ refs false (part (B s) i j), byte b from refsF_byte false _ _ (part_byte s i j))]; exact HSP.out⟩, ⟨Small.next (Small.text HSM.out.1 (by rw [B_length, S_size]; have := refs_len false (part (B s) i j); have := HP.out.2; omega)) HSM.out.2.1, by have := HSM.out.2.1; omega, rest_step HSM.out.2.2.1 (by rw [B_length]; exact HI.out) (by omega), HSM.out.2.2.2⟩⟩
          | true =>
            have HC60 := Aside0.mk c60
            clear c60
            rw [HG0.out, HC60.out, hop, if_pos ⟨rfl, rfl⟩] at hsp
            cases hpr : pre [60, 47, 62] ((B s).drop i) with
            | true =>
              rw [hpr, if_pos rfl] at hsp
              have HSP := Aside0.mk hsp
              have HOP := Aside0.mk (And.intro hop hpr)
              clear hsp hop hpr
              go_wp2_with (first | (go_at_call 9; refine (rawKind_calls rw_ _).mono ?_; rintro e w5 ⟨rfl, hb5⟩; rw [← HKV.out.1]; have HTA := Aside0.mk (HTA.out.under hb5); clear hb5) | (go_at_call 13; refine (opens_calls s (by omega) i (by omega) _).mono ?_; rintro e w6 ⟨rfl, hb6⟩; rw [HOP.out.1]; have HTA := Aside0.mk (HTA.out.under hb6); clear hb6) | (go_at_call 14; refine (stands_calls s ⟨#[60, 47, 62]⟩ (by omega) (by decide) (by decide) i _).mono ?_; rintro e w7 ⟨rfl, hb7⟩; rw [show B ⟨#[60, 47, 62]⟩ = [60, 47, 62] from by decide, HOP.out.2]; have HTA := Aside0.mk (HTA.out.under hb7); clear hb7))
              go_roundg f
              case measure => omega
              case rel => exact ⟨rw_, i + 3, _, rfl, rfl, HTA, HSP, ⟨Small.next HSM.out.1.step HSM.out.2.1, by have := HSM.out.2.1; omega, rest_step HSM.out.2.2.1 (by rw [B_length]; exact HI.out) (by omega), HSM.out.2.2.2⟩⟩
            | false =>
              rw [hpr, if_neg (by simp)] at hsp
              have HOP := Aside0.mk (And.intro hop hpr)
              have hi1 : i + 1 < s.size := by
                unfold opens at hop
                cases h : (B s)[i + 1]? with
                | none => rw [h] at hop; simp at hop
                | some c => rw [← B_length]; exact (List.getElem?_eq_some_iff.1 h).1
              obtain ⟨b1, hb1⟩ : ∃ b1, b1 = bt s ((i + 1 : Nat) : Int) := ⟨_, rfl⟩
              have hx1 : ∀ h : i + 1 < s.size, ((s[i + 1]'h).toNat : Int) = b1 := fun h => by rw [hb1]; exact bt_at s ((i + 1 : Nat) : Int) h
              have hg1 : (B s)[i + 1]? = some b1 := by rw [hb1]; exact B_get s (i + 1) hi1
              clear hb1
              rw [hg1] at hsp
              by_cases c47 : b1 = 47
              · have hd47 : (b1 == 47) = true := beq_iff_eq.2 c47
                have hi2 : i + 2 < s.size := by
                  unfold opens at hop
                  rw [hg1, c47] at hop
                  rw [← B_length]
                  simpa [letter] using hop
                obtain ⟨b2, hb2⟩ : ∃ b2, b2 = bt s ((i + 2 : Nat) : Int) := ⟨_, rfl⟩
                have hx2 : ∀ h : i + 2 < s.size, ((s[i + 2]'h).toNat : Int) = b2 := fun h => by rw [hb2]; exact bt_at s ((i + 2 : Nat) : Int) h
                have hg2 : (B s)[i + 2]? = some b2 := by rw [hb2]; exact B_get s (i + 2) hi2
                rw [if_pos (by rw [c47]), hg2] at hsp
                simp only at hsp
                clear hb2 hg2 hg1 c47 hop hpr hL
                cases hle : letter b2 with
                | false =>
                  simp only [hle, Bool.false_eq_true, if_false] at hsp
                  obtain ⟨mq, hmq⟩ : ∃ mq, mq = markupI (B s) i := ⟨_, rfl⟩
                  rw [← hmq] at hsp
                  have HSP := Aside0.mk hsp
                  have HMQ := Aside0.mk hmq
                  have HLE := Aside0.mk hle
                  clear hsp hmq hle
                  go_wp2_with (first | (go_at_call 9; refine (rawKind_calls rw_ _).mono ?_; rintro e w5 ⟨rfl, hb5⟩; rw [← HKV.out.1]; have HTA := Aside0.mk (HTA.out.under hb5); clear hb5) | (go_at_call 13; refine (opens_calls s (by omega) i (by omega) _).mono ?_; rintro e w6 ⟨rfl, hb6⟩; rw [HOP.out.1]; have HTA := Aside0.mk (HTA.out.under hb6); clear hb6) | (go_at_call 14; refine (stands_calls s ⟨#[60, 47, 62]⟩ (by omega) (by decide) (by decide) i _).mono ?_; rintro e w7 ⟨rfl, hb7⟩; rw [show B ⟨#[60, 47, 62]⟩ = [60, 47, 62] from by decide, HOP.out.2]; have HTA := Aside0.mk (HTA.out.under hb7); clear hb7) | (go_at_call 15; refine (letter_calls _ _).mono ?_; rintro e w8 ⟨rfl, hb8⟩; rw [HLE.out]; have HTA := Aside0.mk (HTA.out.under hb8); clear hb8) | (go_at_call 16; refine (markup_calls s (by omega) i (by omega) _).mono ?_; rintro e w9 ⟨v2, rfl, hr9, hb9⟩; rw [← HMQ.out] at hr9 ⊢; obtain ⟨Am, cm, em⟩ := Kd.R_slice hr9; subst em; have HX9 := Aside0.mk (And.intro hr9 hb9); clear hb9 hr9) | ((with_reducible refine gate_builtin (b := .append) (xs := #[.tmp 107, .tmp 109]) rfl ?_); at_builtin; refine Kd.R_append k36 (w0 := w) w.heap.size rfl (.tmp 107) (.tmp 109) 22 36 (.agg #[.int .i64 0, .string ⟨#[]⟩, .slice none 0 0, .string ⟨#[]⟩, .bool false]) 72 rfl Tryd.underlying22 info36 rfl (by decide) (by omega) u5 out (tk mq.1 : T) [.int .i64 (tk mq.1).f0, .string (tk mq.1).f1, .slice Am (tk mq.1).f2.length cm, .string (tk mq.1).f3, .bool (tk mq.1).f4] (fun _ => True) (fun k => some k ≠ u5.ownBlock) rfl ?aX ?aP (fun k hk => ⟨trivial, hk⟩) ?aF ?aO ?aB ?aS ?aL ?_; (case aX => show Value.slice (some ⟨_, 0, none⟩) 1 1 = _; simp); (case aP => exact (TokAt.put (x := tk mq.1) HTA.out HX9.out.1 HX9.out.2 (below_one _ _)).2); (case aB => exact (TokAt.put (x := tk mq.1) HTA.out HX9.out.1 HX9.out.2 (below_one _ _)).1.below); (case aF => exact (fun _ _ => trivial)); (case aO => exact (TokAt.put (x := tk mq.1) HTA.out HX9.out.1 HX9.out.2 (below_one _ _)).1.row); (case aS => exact (TokAt.put (x := tk mq.1) HTA.out HX9.out.1 HX9.out.2 (below_one _ _)).1.below.size); (case aL => have := HSM.out.1.1; have := HF.out; omega); intro v10 w10 hr10 hb10 hg10 hm10; have HTA10 := Aside0.mk (TokAt.mk hr10 hb10); clear hr10 hb10 hg10 hm10))
                  go_roundg f
                  case measure => omega
                  case rel => exact ⟨rw_, mq.2, _, rfl, rfl, HTA10, HSP, ⟨Small.next (Small.snoc HSM.out.1 (by rw [HMQ.out]; have := markupI_size (B s) i; rw [B_length] at this; omega)) HSM.out.2.1, by have := HSM.out.2.1; omega, rest_step HSM.out.2.2.1 (by rw [B_length]; exact HI.out) (by rw [HMQ.out]; exact markupI_gt _ _), HSM.out.2.2.2⟩⟩
                | true =>
                  simp only [hle, if_true] at hsp
                  rcases htg : tagOf (B s) (i + 2) with ⟨al, cl, _ | e⟩
                  · rw [htg] at hsp
                    simp only at hsp
                    have HSP := Aside0.mk hsp
                    have HTG := Aside0.mk htg
                    have HLE := Aside0.mk hle
                    clear hsp htg hle
                    go_wp2_with (first | (go_at_call 9; refine (rawKind_calls rw_ _).mono ?_; rintro e w5 ⟨rfl, hb5⟩; rw [← HKV.out.1]; have HTA := Aside0.mk (HTA.out.under hb5); clear hb5) | (go_at_call 13; refine (opens_calls s (by omega) i (by omega) _).mono ?_; rintro e w6 ⟨rfl, hb6⟩; rw [HOP.out.1]; have HTA := Aside0.mk (HTA.out.under hb6); clear hb6) | (go_at_call 14; refine (stands_calls s ⟨#[60, 47, 62]⟩ (by omega) (by decide) (by decide) i _).mono ?_; rintro e w7 ⟨rfl, hb7⟩; rw [show B ⟨#[60, 47, 62]⟩ = [60, 47, 62] from by decide, HOP.out.2]; have HTA := Aside0.mk (HTA.out.under hb7); clear hb7) | (go_at_call 15; refine (letter_calls _ _).mono ?_; rintro e w8 ⟨rfl, hb8⟩; rw [HLE.out]; have HTA := Aside0.mk (HTA.out.under hb8); clear hb8) | (go_at_call 17; refine (tag_none s (by omega) (i + 2) (by omega) 3 HTG.out _).mono ?_; rintro e9 w9 ⟨v2, rfl, hr9, hb9⟩; obtain ⟨Am, cm, em⟩ := Kd.R_slice hr9; subst em; have HX9 := Aside0.mk (And.intro hr9 hb9); clear hb9 hr9))
                    go_ret
                    exact ⟨_, rfl, by rw [← HSP.out]; exact (HTA.out.under HX9.out.2).under (below_one _ _)⟩
                  · rw [htg] at hsp
                    simp only at hsp
                    have HSP := Aside0.mk hsp
                    have HTG := Aside0.mk htg
                    have HLE := Aside0.mk hle
                    have hge : i < e := by have := tagOf_gt (show (tagOf (B s) (i + 2)).2.2 = some e by rw [htg]); omega
                    have HGE := Aside0.mk hge
                    clear hsp htg hle hge
                    go_wp2_with (first | (go_at_call 9; refine (rawKind_calls rw_ _).mono ?_; rintro e w5 ⟨rfl, hb5⟩; rw [← HKV.out.1]; have HTA := Aside0.mk (HTA.out.under hb5); clear hb5) | (go_at_call 13; refine (opens_calls s (by omega) i (by omega) _).mono ?_; rintro e w6 ⟨rfl, hb6⟩; rw [HOP.out.1]; have HTA := Aside0.mk (HTA.out.under hb6); clear hb6) | (go_at_call 14; refine (stands_calls s ⟨#[60, 47, 62]⟩ (by omega) (by decide) (by decide) i _).mono ?_; rintro e w7 ⟨rfl, hb7⟩; rw [show B ⟨#[60, 47, 62]⟩ = [60, 47, 62] from by decide, HOP.out.2]; have HTA := Aside0.mk (HTA.out.under hb7); clear hb7) | (go_at_call 15; refine (letter_calls _ _).mono ?_; rintro e w8 ⟨rfl, hb8⟩; rw [HLE.out]; have HTA := Aside0.mk (HTA.out.under hb8); clear hb8) | (go_at_call 17; refine (tag_end s (by omega) (i + 2) (by omega) HTG.out _).mono ?_; rintro e9 w9 ⟨v2, rfl, hr9, hb9⟩; obtain ⟨Am, cm, em⟩ := Kd.R_slice hr9; subst em; have HX9 := Aside0.mk (And.intro hr9 hb9); clear hb9 hr9) | ((with_reducible refine gate_builtin (b := .append) (xs := #[.tmp 122, .tmp 124]) rfl ?_); at_builtin; refine Kd.R_append k36 (w0 := w) w.heap.size rfl (.tmp 122) (.tmp 124) 22 36 (.agg #[.int .i64 0, .string ⟨#[]⟩, .slice none 0 0, .string ⟨#[]⟩, .bool false]) 72 rfl Tryd.underlying22 info36 rfl (by decide) (by omega) u5 out ((⟨3, nameOf (B s) (i + 2), [], S [], false⟩ : T) : T) [.int .i64 3, .string (nameOf (B s) (i + 2)), .slice Am 0 cm, .string ⟨#[]⟩, .bool false] (fun _ => True) (fun k => some k ≠ u5.ownBlock) rfl ?aX ?aP (fun k hk => ⟨trivial, hk⟩) ?aF ?aO ?aB ?aS ?aL ?_; (case aX => show Value.slice (some ⟨_, 0, none⟩) 1 1 = _; simp); (case aP => exact (TokAt.put (x := (⟨3, nameOf (B s) (i + 2), [], S [], false⟩ : T)) HTA.out HX9.out.1 HX9.out.2 (below_one _ _)).2); (case aB => exact (TokAt.put (x := (⟨3, nameOf (B s) (i + 2), [], S [], false⟩ : T)) HTA.out HX9.out.1 HX9.out.2 (below_one _ _)).1.below); (case aF => exact (fun _ _ => trivial)); (case aO => exact (TokAt.put (x := (⟨3, nameOf (B s) (i + 2), [], S [], false⟩ : T)) HTA.out HX9.out.1 HX9.out.2 (below_one _ _)).1.row); (case aS => exact (TokAt.put (x := (⟨3, nameOf (B s) (i + 2), [], S [], false⟩ : T)) HTA.out HX9.out.1 HX9.out.2 (below_one _ _)).1.below.size); (case aL => have := HSM.out.1.1; have := HF.out; omega); intro v10 w10 hr10 hb10 hg10 hm10; have HTA10 := Aside0.mk (TokAt.mk hr10 hb10); clear hr10 hb10 hg10 hm10))
                    go_roundg f
                    case measure => omega
                    case rel => exact ⟨rw_, e, _, rfl, rfl, HTA10, HSP, ⟨Small.next (Small.snoc HSM.out.1 (by show (S []).size ≤ _; rw [S_size]; simp)) HSM.out.2.1, by have := HSM.out.2.1; omega, rest_step HSM.out.2.2.1 (by rw [B_length]; exact HI.out) HGE.out, HSM.out.2.2.2⟩⟩
              · have hd47 : (b1 == 47) = false := beq_eq_false_iff_ne.2 c47
                rw [if_neg (by intro h; injection h with h; exact c47 h)] at hsp
                simp only at hsp
                clear hg1 c47 hop hpr hL
                cases hle : letter b1 with
                | false =>
                  simp only [hle, Bool.false_eq_true, if_false] at hsp
                  obtain ⟨mq, hmq⟩ : ∃ mq, mq = markupI (B s) i := ⟨_, rfl⟩
                  rw [← hmq] at hsp
                  have HSP := Aside0.mk hsp
                  have HMQ := Aside0.mk hmq
                  have HLE := Aside0.mk hle
                  clear hsp hmq hle
                  go_wp2_with (first | (go_at_call 9; refine (rawKind_calls rw_ _).mono ?_; rintro e w5 ⟨rfl, hb5⟩; rw [← HKV.out.1]; have HTA := Aside0.mk (HTA.out.under hb5); clear hb5) | (go_at_call 13; refine (opens_calls s (by omega) i (by omega) _).mono ?_; rintro e w6 ⟨rfl, hb6⟩; rw [HOP.out.1]; have HTA := Aside0.mk (HTA.out.under hb6); clear hb6) | (go_at_call 14; refine (stands_calls s ⟨#[60, 47, 62]⟩ (by omega) (by decide) (by decide) i _).mono ?_; rintro e w7 ⟨rfl, hb7⟩; rw [show B ⟨#[60, 47, 62]⟩ = [60, 47, 62] from by decide, HOP.out.2]; have HTA := Aside0.mk (HTA.out.under hb7); clear hb7) | (go_at_call 15; refine (letter_calls _ _).mono ?_; rintro e w8 ⟨rfl, hb8⟩; rw [HLE.out]; have HTA := Aside0.mk (HTA.out.under hb8); clear hb8) | (go_at_call 16; refine (markup_calls s (by omega) i (by omega) _).mono ?_; rintro e w9 ⟨v2, rfl, hr9, hb9⟩; rw [← HMQ.out] at hr9 ⊢; obtain ⟨Am, cm, em⟩ := Kd.R_slice hr9; subst em; have HX9 := Aside0.mk (And.intro hr9 hb9); clear hb9 hr9) | ((with_reducible refine gate_builtin (b := .append) (xs := #[.tmp 107, .tmp 109]) rfl ?_); at_builtin; refine Kd.R_append k36 (w0 := w) w.heap.size rfl (.tmp 107) (.tmp 109) 22 36 (.agg #[.int .i64 0, .string ⟨#[]⟩, .slice none 0 0, .string ⟨#[]⟩, .bool false]) 72 rfl Tryd.underlying22 info36 rfl (by decide) (by omega) u5 out (tk mq.1 : T) [.int .i64 (tk mq.1).f0, .string (tk mq.1).f1, .slice Am (tk mq.1).f2.length cm, .string (tk mq.1).f3, .bool (tk mq.1).f4] (fun _ => True) (fun k => some k ≠ u5.ownBlock) rfl ?aX ?aP (fun k hk => ⟨trivial, hk⟩) ?aF ?aO ?aB ?aS ?aL ?_; (case aX => show Value.slice (some ⟨_, 0, none⟩) 1 1 = _; simp); (case aP => exact (TokAt.put (x := tk mq.1) HTA.out HX9.out.1 HX9.out.2 (below_one _ _)).2); (case aB => exact (TokAt.put (x := tk mq.1) HTA.out HX9.out.1 HX9.out.2 (below_one _ _)).1.below); (case aF => exact (fun _ _ => trivial)); (case aO => exact (TokAt.put (x := tk mq.1) HTA.out HX9.out.1 HX9.out.2 (below_one _ _)).1.row); (case aS => exact (TokAt.put (x := tk mq.1) HTA.out HX9.out.1 HX9.out.2 (below_one _ _)).1.below.size); (case aL => have := HSM.out.1.1; have := HF.out; omega); intro v10 w10 hr10 hb10 hg10 hm10; have HTA10 := Aside0.mk (TokAt.mk hr10 hb10); clear hr10 hb10 hg10 hm10))
                  go_roundg f
                  case measure => omega
                  case rel => exact ⟨rw_, mq.2, _, rfl, rfl, HTA10, HSP, ⟨Small.next (Small.snoc HSM.out.1 (by rw [HMQ.out]; have := markupI_size (B s) i; rw [B_length] at this; omega)) HSM.out.2.1, by have := HSM.out.2.1; omega, rest_step HSM.out.2.2.1 (by rw [B_length]; exact HI.out) (by rw [HMQ.out]; exact markupI_gt _ _), HSM.out.2.2.2⟩⟩
                | true =>
                  simp only [hle, if_true] at hsp
                  rcases htg : tagOf (B s) (i + 1) with ⟨al, cl, _ | e⟩
                  · rw [htg] at hsp
                    simp only at hsp
                    have HSP := Aside0.mk hsp
                    have HTG := Aside0.mk htg
                    have HLE := Aside0.mk hle
                    clear hsp htg hle
                    go_wp2_with (first | (go_at_call 9; refine (rawKind_calls rw_ _).mono ?_; rintro e w5 ⟨rfl, hb5⟩; rw [← HKV.out.1]; have HTA := Aside0.mk (HTA.out.under hb5); clear hb5) | (go_at_call 13; refine (opens_calls s (by omega) i (by omega) _).mono ?_; rintro e w6 ⟨rfl, hb6⟩; rw [HOP.out.1]; have HTA := Aside0.mk (HTA.out.under hb6); clear hb6) | (go_at_call 14; refine (stands_calls s ⟨#[60, 47, 62]⟩ (by omega) (by decide) (by decide) i _).mono ?_; rintro e w7 ⟨rfl, hb7⟩; rw [show B ⟨#[60, 47, 62]⟩ = [60, 47, 62] from by decide, HOP.out.2]; have HTA := Aside0.mk (HTA.out.under hb7); clear hb7) | (go_at_call 15; refine (letter_calls _ _).mono ?_; rintro e w8 ⟨rfl, hb8⟩; rw [HLE.out]; have HTA := Aside0.mk (HTA.out.under hb8); clear hb8) | (go_at_call 17; refine (tag_none s (by omega) (i + 1) (by omega) 2 HTG.out _).mono ?_; rintro e9 w9 ⟨v2, rfl, hr9, hb9⟩; obtain ⟨Am, cm, em⟩ := Kd.R_slice hr9; subst em; have HX9 := Aside0.mk (And.intro hr9 hb9); clear hb9 hr9))
                    go_ret
                    exact ⟨_, rfl, by rw [← HSP.out]; exact (HTA.out.under HX9.out.2).under (below_one _ _)⟩
                  · rw [htg] at hsp
                    simp only at hsp
                    have HSP := Aside0.mk hsp
                    have HTG := Aside0.mk htg
                    have HLE := Aside0.mk hle
                    have hge : i < e := by have := tagOf_gt (show (tagOf (B s) (i + 1)).2.2 = some e by rw [htg]); omega
                    have HGE := Aside0.mk hge
                    clear hsp htg hle hge
                    go_wp2_with (first | (go_at_call 9; refine (rawKind_calls rw_ _).mono ?_; rintro e w5 ⟨rfl, hb5⟩; rw [← HKV.out.1]; have HTA := Aside0.mk (HTA.out.under hb5); clear hb5) | (go_at_call 13; refine (opens_calls s (by omega) i (by omega) _).mono ?_; rintro e w6 ⟨rfl, hb6⟩; rw [HOP.out.1]; have HTA := Aside0.mk (HTA.out.under hb6); clear hb6) | (go_at_call 14; refine (stands_calls s ⟨#[60, 47, 62]⟩ (by omega) (by decide) (by decide) i _).mono ?_; rintro e w7 ⟨rfl, hb7⟩; rw [show B ⟨#[60, 47, 62]⟩ = [60, 47, 62] from by decide, HOP.out.2]; have HTA := Aside0.mk (HTA.out.under hb7); clear hb7) | (go_at_call 15; refine (letter_calls _ _).mono ?_; rintro e w8 ⟨rfl, hb8⟩; rw [HLE.out]; have HTA := Aside0.mk (HTA.out.under hb8); clear hb8) | (go_at_call 17; refine (tag_start s (by omega) (i + 1) (by omega) HTG.out _).mono ?_; rintro e9 w9 ⟨v2, rfl, hr9, hb9⟩; obtain ⟨Am, cm, em⟩ := Kd.R_slice hr9; subst em; have HX9 := Aside0.mk (And.intro hr9 hb9); clear hb9 hr9) | ((with_reducible refine gate_builtin (b := .append) (xs := #[.tmp 122, .tmp 124]) rfl ?_); at_builtin; refine Kd.R_append k36 (w0 := w) w.heap.size rfl (.tmp 122) (.tmp 124) 22 36 (.agg #[.int .i64 0, .string ⟨#[]⟩, .slice none 0 0, .string ⟨#[]⟩, .bool false]) 72 rfl Tryd.underlying22 info36 rfl (by decide) (by omega) u5 out ((⟨2, nameOf (B s) (i + 1), al, S [], cl⟩ : T) : T) [.int .i64 2, .string (nameOf (B s) (i + 1)), .slice Am al.length cm, .string ⟨#[]⟩, .bool cl] (fun _ => True) (fun k => some k ≠ u5.ownBlock) rfl ?aX ?aP (fun k hk => ⟨trivial, hk⟩) ?aF ?aO ?aB ?aS ?aL ?_; (case aX => show Value.slice (some ⟨_, 0, none⟩) 1 1 = _; simp); (case aP => exact (TokAt.put (x := (⟨2, nameOf (B s) (i + 1), al, S [], cl⟩ : T)) HTA.out HX9.out.1 HX9.out.2 (below_one _ _)).2); (case aB => exact (TokAt.put (x := (⟨2, nameOf (B s) (i + 1), al, S [], cl⟩ : T)) HTA.out HX9.out.1 HX9.out.2 (below_one _ _)).1.below); (case aF => exact (fun _ _ => trivial)); (case aO => exact (TokAt.put (x := (⟨2, nameOf (B s) (i + 1), al, S [], cl⟩ : T)) HTA.out HX9.out.1 HX9.out.2 (below_one _ _)).1.row); (case aS => exact (TokAt.put (x := (⟨2, nameOf (B s) (i + 1), al, S [], cl⟩ : T)) HTA.out HX9.out.1 HX9.out.2 (below_one _ _)).1.below.size); (case aL => have := HSM.out.1.1; have := HF.out; omega); intro v10 w10 hr10 hb10 hg10 hm10; have hcl10 : w10.cell? ⟨w9.heap.size, 1, none⟩ = some (.string (nameOf (B s) (i + 1))) := cell_kept HTA.out HX9.out.2 hg10 1 _ rfl; have HTA10 := Aside0.mk (TokAt.mk hr10 hb10); clear hr10 hb10 hg10 hm10))
                    go_roundg f
                    case measure => omega
                    case rel => exact ⟨(nameOf (B s) (i + 1)), e, _, rfl, rfl, HTA10, HSP, ⟨Small.next (Small.snoc HSM.out.1 (by show (S []).size ≤ _; rw [S_size]; simp)) HSM.out.2.1, by have := HSM.out.2.1; omega, rest_step HSM.out.2.2.1 (by rw [B_length]; exact HI.out) HGE.out, (by have := nameOf_size (B s) (i + 1); rw [B_length] at this; omega)⟩⟩
        · have hd60 : (b0 != 60) = true := bne_iff_ne.2 c60
          rw [if_neg (by rintro ⟨h, _⟩; rw [HG0.out] at h; injection h with h; exact c60 h)] at hsp
          clear c60
          obtain ⟨E, hE⟩ : ∃ E, E = txI (B s) (s.size - (i + 1)) (i + 1) := ⟨_, rfl⟩
          rw [hL, ← hE] at hsp
          have hE0 : i + 1 ≤ E := by rw [hE]; exact txI_ge _ _ _
          have hE1 : E ≤ s.size := by rw [hE]; have := txI_le (B s) (s.size - (i + 1)) (i + 1); omega
          have hE2 : i ≤ E := by omega
          have HSP := Aside0.mk hsp
          have HE := Aside0.mk hE
          have HP := Aside0.mk (And.intro (show B (s.extract i E) = part (B s) i E from B_extract s i E) (show (part (B s) i E).length ≤ 180000 by have := part_le (B s) i E; omega))
          clear hE hsp hL
          go_upto_region 16 with ((go_at_call 9; refine (rawKind_calls rw_ _).mono ?_; rintro e w5 ⟨rfl, hb5⟩; rw [← HKV.out.1]; have HTA := Aside0.mk (HTA.out.under hb5); clear hb5))
          rename World => wU
          go_loopg [9] (s.size + 1) (fun kq v9 wq => ∃ j : Nat, v9 = .int .i64 j ∧ Aside0 (txI (B s) (s.size - j) j = E ∧ i + 1 ≤ j ∧ j ≤ s.size ∧ s.size - j < kq) ∧ Aside0 (TokAt w wq u5 out))
          case atStart => exact ⟨i + 1, rfl, ⟨HE.out.symm, Nat.le_refl _, by omega, by omega⟩, HTA⟩
          case round =>
            obtain ⟨j, rfl, HJ, HTJ⟩ := hrel
            by_cases hj : j < s.size
            · obtain ⟨g, rfl⟩ : ∃ g, gk = g + 1 := ⟨gk - 1, by have := HJ.out.2.2.2; omega⟩
              have hjl : j < (B s).length := by rw [B_length]; exact hj
              have hx := HJ.out.1
              rw [← B_length, txI_at hjl, B_length] at hx
              have hd1 : decide (j < s.size) = true := decide_eq_true hj
              obtain ⟨bj, hbj⟩ : ∃ bj, bj = bt s (j : Int) := ⟨_, rfl⟩
              have hxj : ∀ h : j < s.size, ((s[j]'h).toNat : Int) = bj := fun h => by rw [hbj]; exact bt_at s (j : Int) h
              have hgj : (B s)[j]? = some bj := by rw [hbj]; exact B_get s j hj
              clear hbj hjl
              rw [hgj] at hx
              clear hgj
              by_cases c : bj = 60
              · have hdj : (bj == 60) = true := beq_iff_eq.2 c
                cases hoj : opens (B s) j with
                | true =>
                  have HOJ := Aside0.mk hoj
                  rw [if_pos ⟨by rw [c], hoj⟩] at hx
                  subst hx
                  clear hoj c
                  go_wp2_with (first | (go_at_call 13; refine (opens_calls s (by omega) j (by omega) _).mono ?_; rintro e w6 ⟨rfl, hb6⟩; rw [HOJ.out]; have HTJ := Aside0.mk (HTJ.out.under hb6); clear hb6) | (go_at_call 11; refine (refs_calls (s.extract i j) (by rw [← B_length, HP.out.1]; have := HP.out.2; omega) false _).mono ?_; rintro e w7 ⟨rfl, hb7⟩; rw [HP.out.1]; have HTJ := Aside0.mk (HTJ.out.under hb7); clear hb7) | (go_at_call 12; refine (HTJ.out.fits HSM.out.1 (by have := HF.out; omega) (S (refs false (part (B s) i j))) (by rw [S_size]; have := refs_len false (part (B s) i j); have := HP.out.2; omega)).mono ?_; rintro e w8 ⟨v8, rfl, ht8⟩; have HTA8 := Aside0.mk ht8; clear ht8))
                  go_roundg f
                  case measure => omega
                  case rel => exact ⟨rw_, j, _, rfl, rfl, HTA8, ⟨by rw [B_S (show ∀ b ∈ refs false (part (B s) i j), byte b from refsF_byte false _ _ (part_byte s i j))]; exact HSP.out⟩, ⟨Small.next (Small.text HSM.out.1 (by rw [B_length, S_size]; have := refs_len false (part (B s) i j); have := HP.out.2; omega)) HSM.out.2.1, by have := HSM.out.2.1; omega, rest_step HSM.out.2.2.1 (by rw [B_length]; exact HI.out) (by omega), HSM.out.2.2.2⟩⟩
                | false =>
                  have HOJ := Aside0.mk hoj
                  rw [if_neg (by rw [hoj]; simp)] at hx
                  have HX := Aside0.mk hx
                  clear hoj c hx
                  go_wp2_with ((go_at_call 13; refine (opens_calls s (by omega) j (by omega) _).mono ?_; rintro e w6 ⟨rfl, hb6⟩; rw [HOJ.out]; have HTJ := Aside0.mk (HTJ.out.under hb6); clear hb6))
                  go_roundg g
                  case measure => omega
                  case rel => exact ⟨j + 1, rfl, ⟨HX.out, by have := HJ.out.2.1; omega, by omega, by have := HJ.out.2.2.2; omega⟩, HTJ⟩
              · have hdj : (bj == 60) = false := beq_eq_false_iff_ne.2 c
                rw [if_neg (by rintro ⟨h, _⟩; injection h with h; exact c h)] at hx
                have HX := Aside0.mk hx
                clear c hx
                go_wp2
                go_roundg g
                case measure => omega
                case rel => exact ⟨j + 1, rfl, ⟨HX.out, by have := HJ.out.2.1; omega, by omega, by have := HJ.out.2.2.2; omega⟩, HTJ⟩
            · have hx : j = E := by have h := HJ.out.1; have := HJ.out.2.2.1; rw [show s.size - j = 0 from by omega] at h; exact h
              subst hx
              have hd1 : decide (j < s.size) = false := decide_eq_false hj
              go_wp2_with (first | (go_at_call 11; refine (refs_calls (s.extract i j) (by rw [← B_length, HP.out.1]; have := HP.out.2; omega) false _).mono ?_; rintro e w7 ⟨rfl, hb7⟩; rw [HP.out.1]; have HTJ := Aside0.mk (HTJ.out.under hb7); clear hb7) | (go_at_call 12; refine (HTJ.out.fits HSM.out.1 (by have := HF.out; omega) (S (refs false (part (B s) i j))) (by rw [S_size]; have := refs_len false (part (B s) i j); have := HP.out.2; omega)).mono ?_; rintro e w8 ⟨v8, rfl, ht8⟩; have HTA8 := Aside0.mk ht8; clear ht8))
              go_roundg f
              case measure => omega
              case rel => exact ⟨rw_, j, _, rfl, rfl, HTA8, ⟨by rw [B_S (show ∀ b ∈ refs false (part (B s) i j), byte b from refsF_byte false _ _ (part_byte s i j))]; exact HSP.out⟩, ⟨Small.next (Small.text HSM.out.1 (by rw [B_length, S_size]; have := refs_len false (part (B s) i j); have := HP.out.2; omega)) HSM.out.2.1, by have := HSM.out.2.1; omega, rest_step HSM.out.2.2.1 (by rw [B_length]; exact HI.out) (by omega), HSM.out.2.2.2⟩⟩
    · have hsp := HSP.out
      have e : specTok (B s) gk i (B rw_) out = out := by
        cases gk with
        | zero => rfl
        | succ g => simp only [specTok]; rw [if_neg (by rw [hL]; exact hi)]
      rw [e] at hsp
      have hd0 : decide ((i : Int) < (s.size : Int)) = false := decide_eq_false (by omega)
      have HE := Aside0.mk hsp
      have hd1 : decide (i < s.size) = false := decide_eq_false hi
      clear hsp e hL
      go_upto_region 38 with (fail)
      go_wp2
      go_ret
      exact ⟨_, rfl, by rw [← HE.out]; exact HTA.out⟩
end Go.Proofs.YtnjnoabldjodcaaDoor.Tok
set_option linter.unusedVariables false
set_option linter.unusedSimpArgs false
namespace Go.Proofs.YtnjnoabldjodcaaDoor.Tok
open Go.RowKit Go.Proofs.YtnjnoabldjodcaaDoorW.PrintWords Go.Proofs.YtnjnoabldjodcaaDoorW.PrintLast Go.Proofs.YtnjnoabldjodcaaDoorW.PrintMore Go.Proofs.YtnjnoabldjodcaaDoor.PFnExactTokens
structure LowAt (w wr : World) (s : ByteArray) (j : Nat) : Prop where
  cells : ∀ q, q < s.size → wr.cell? ⟨w.heap.size, q, none⟩ = some (.int .u8 (if q < j then lowB (bt s (q : Int)) else bt s (q : Int)))
  soft : ∀ q, q < s.size → wr.frozen? ⟨w.heap.size, q, none⟩ = false
  below : Below w.heap.size w wr
theorem LowAt.start (w : World) (s : ByteArray) : LowAt w (Lib.bytesWorld w 5 s) s 0 := by
  refine ⟨fun q hq => ?_, fun q hq => ?_, bytes_below (Below.refl _ w) (Nat.le_refl _) _ _⟩
  · rw [Lib.bytesWorld_cell w _ s q hq, if_neg (by omega)]
    unfold bt
    rw [dif_pos (by simpa using hq)]
    have hl : q < s.data.toList.length := by simpa using hq
    rw [List.getD_eq_getElem?_getD, List.getElem?_eq_getElem hl]
    rfl
  · unfold World.frozen?
    rw [Lib.bytesWorld_at_new]
    have : q < (Lib.bytesCells w 5 s).size := by
      unfold Lib.bytesCells
      rw [Array.size_append, Array.size_map]
      have : s.data.size = s.size := rfl
      omega
    simp
    omega
theorem LowAt.same {w wr : World} {s : ByteArray} {j : Nat} (h : LowAt w wr s j) (hn : lowB (bt s (j : Int)) = bt s (j : Int)) : LowAt w wr s (j + 1) := by
  refine ⟨fun q hq => ?_, h.soft, h.below⟩
  rw [h.cells q hq]
  by_cases e : q = j
  · subst e; rw [if_neg (by omega), if_pos (by omega), hn]
  · by_cases c : q < j
    · rw [if_pos c, if_pos (by omega)]
    · rw [if_neg c, if_neg (by omega)]
theorem LowAt.set {w wr : World} {s : ByteArray} {j : Nat} (h : LowAt w wr s j) (hj : j < s.size) : LowAt w (wr.setCell ⟨w.heap.size, j, none⟩ (.int .u8 (lowB (bt s (j : Int))))) s (j + 1) := by
  refine ⟨fun q hq => ?_, fun q hq => ?_, h.below.setCell (Nat.le_refl _) _⟩
  · by_cases e : q = j
    · subst e
      rw [World.cell?_setCell_same _ _ _ (h.cells q hq), if_pos (by omega)]
    · rw [World.cell?_setCell_other _ _ _ _ (by intro h; injection h with _ h; exact e h.symm), h.cells q hq]
      by_cases c : q < j
      · rw [if_pos c, if_pos (by omega)]
      · rw [if_neg c, if_neg (by omega)]
  · rw [World.frozen?_setCell]; exact h.soft q hq
theorem LowAt.done {w wr : World} {s : ByteArray} (hs : s.size ≤ 9223372036854775807) (h : LowAt w wr s s.size) : (Kd.int .u8).C wr (some ⟨w.heap.size, 0, none⟩) s.size (low (B s)) := by
  refine Kd.C_of_reads (enc := Value.int .u8) (d := (0 : Int)) (h1 := fun _ => rfl) ?_
  refine ⟨by simp [low, B_length], hs, fun _ => ⟨_, rfl, fun q hq => ?_⟩⟩
  rw [add_plain]
  rw [h.cells q hq, if_pos hq]
  have hg := B_get s q hq
  simp [low, List.getD_eq_getElem?_getD, hg]
set_option maxHeartbeats 4000000 in
set_option maxRecDepth 100000 in
theorem lower_calls (s : ByteArray) (hs : s.size < 2 ^ 40) (w : World) : Calls Tryd.prog 38 #[.string s] w fun e w' => e = .returned (.string (S (low (B s)))) ∧ Below w.heap.size w w' := by
  have kb := fun W => print_bytes (P := Tryd.prog) 9 42 5 Tryd.underlying9 Tryd.underlying42 Tryd.underlying5 s W
  go_enter Tryd.func38, Tryd.ntmps38
  go_upto_region 3 with (fail)
  have hst := LowAt.start w s
  generalize hw1 : Lib.bytesWorld _ _ _ = w1
  generalize hcap : grownCap _ _ _ _ = cap
  rw [hw1] at hst
  have HST := Aside0.mk hst
  clear hw1 hst kb
  go_loopg [10] (s.size + 1) (fun kq v10 wr => ∃ j : Nat, v10 = .int .i64 j ∧ Aside0 (j ≤ s.size ∧ s.size - j < kq) ∧ Aside0 (LowAt w wr s j))
  case atStart => exact ⟨0, rfl, ⟨Nat.zero_le _, by omega⟩, HST⟩
  case round =>
    obtain ⟨j, rfl, HJ, HL⟩ := hrel
    by_cases hj : j < s.size
    · obtain ⟨g, rfl⟩ : ∃ g, gk = g + 1 := ⟨gk - 1, by have := HJ.out.2; omega⟩
      have hd : decide (j < s.size) = true := decide_eq_true hj
      have hcj : wr.cell? ⟨w.heap.size, j, none⟩ = some (.int .u8 (bt s (j : Int))) := by rw [HL.out.cells j hj, if_neg (by omega)]
      have hfz := HL.out.soft j hj
      have hb := bt_range s (j : Int)
      have HS := Aside0.mk (show lowB (bt s (j : Int)) = bt s (j : Int) ∨ (65 ≤ bt s (j : Int) ∧ bt s (j : Int) ≤ 90 ∧ lowB (bt s (j : Int)) = bt s (j : Int) + 32) from by
        unfold lowB
        split
        · rename_i h; exact .inr ⟨h.1, h.2, rfl⟩
        · exact .inl rfl)
      have HSET := Aside0.mk (HL.out.set hj)
      have HSAME := Aside0.mk (HL.out.same)
      obtain ⟨b, hbb⟩ : ∃ b, b = bt s (j : Int) := ⟨_, rfl⟩
      rw [← hbb] at hcj hb HS HSET HSAME
      clear hbb
      obtain ⟨hb0, hb1⟩ := hb
      by_cases c1 : 65 ≤ b
      · have hd1 : decide (65 ≤ b) = true := decide_eq_true c1
        by_cases c2 : b ≤ 90
        · have hd2 : decide (b ≤ 90) = true := decide_eq_true c2
          have hlow : lowB b = b + 32 := by unfold lowB; rw [if_pos ⟨c1, c2⟩]
          rw [hlow] at HSET
          have hw8 : IntKind.u8.wrap (b + 32) = b + 32 := by rw [IntKind.wrap_u8]; omega
          clear c1 c2 hlow HS
          go_wp2
          go_roundg g
          case measure => omega
          case rel => exact ⟨j + 1, rfl, ⟨hj, by have := HJ.out.2; omega⟩, HSET⟩
        · have hd2 : decide (b ≤ 90) = false := decide_eq_false c2
          have hlow : lowB b = b := by unfold lowB; rw [if_neg (fun h => c2 h.2)]
          have HN := Aside0.mk (HSAME.out hlow)
          clear c1 c2 hlow HS HSET HSAME
          go_wp2
          go_roundg g
          case measure => omega
          case rel => exact ⟨j + 1, rfl, ⟨hj, by have := HJ.out.2; omega⟩, HN⟩
      · have hd1 : decide (65 ≤ b) = false := decide_eq_false c1
        have hlow : lowB b = b := by unfold lowB; rw [if_neg (fun h => c1 h.1)]
        have HN := Aside0.mk (HSAME.out hlow)
        clear c1 hlow HS HSET HSAME
        go_wp2
        go_roundg g
        case measure => omega
        case rel => exact ⟨j + 1, rfl, ⟨hj, by have := HJ.out.2; omega⟩, HN⟩
    · have e : j = s.size := by have := HJ.out.1; omega
      subst e
      have kt := fun c => Kd.C_string (P := Tryd.prog) (src := 42) (dst := 9) (n := s.size) (c := c) Tryd.underlying42 Tryd.underlying5 Tryd.underlying9 (HL.out.done (by omega))
      have hd : decide (s.size < s.size) = false := decide_eq_false hj
      clear hj
      go_wp2
      go_ret
      exact ⟨rfl, HL.out.below⟩
end Go.Proofs.YtnjnoabldjodcaaDoor.Tok
