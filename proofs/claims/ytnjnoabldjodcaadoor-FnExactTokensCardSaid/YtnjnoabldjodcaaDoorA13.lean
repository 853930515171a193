/- Part 13 of the proof: TokByte, TokEncode, PtS. -/
import Derived.Test.YtnjnoabldjodcaaDoorA12
import Derived.Test.YtnjnoabldjodcaaDoorA1
set_option linter.unusedVariables false
set_option linter.unusedSimpArgs false
namespace Go.Proofs.YtnjnoabldjodcaaDoor.Tok
open Go.RowKit Go.Proofs.YtnjnoabldjodcaaDoorW.PrintWords Go.Proofs.YtnjnoabldjodcaaDoorW.PrintLast Go.Proofs.YtnjnoabldjodcaaDoorW.PrintMore Go.Proofs.YtnjnoabldjodcaaDoor.PFnExactTokens
abbrev ByteRow (w : World) (base : Nat) (v : Value) (l : Bs) : Prop := Kd.R (Kd.int .u8) 5 w base (fun _ => True) v l
structure BytesAt (base : Nat) (w0 wr : World) (v : Value) (l : Bs) : Prop where
  row : ByteRow wr base v l
  below : Below base w0 wr
  size : base ≤ wr.heap.size
theorem BytesAt.under {base : Nat} {w0 wr w8 : World} {v : Value} {l : Bs} (h : BytesAt base w0 wr v l) (hb : Below wr.heap.size wr w8) : BytesAt base w0 w8 v l :=
  ⟨Kd.R_below h.row hb, below_then h.below h.size hb, Nat.le_trans h.size hb.size⟩
theorem box_C (w : World) (l : Bs) (hl : l.length ≤ 1000) : (Kd.int .u8).C (w.alloc (.cells (l.map (Value.int .u8)).toArray 5)) (some ⟨w.heap.size, 0, none⟩) l.length l := by
  refine Kd.C_of_reads (enc := Value.int .u8) (d := (0 : Int)) (h1 := fun _ => rfl) ⟨rfl, by omega, fun _ => ⟨_, rfl, fun q hq => ?_⟩⟩
  rw [add_plain]
  have hblk : (w.alloc (.cells (l.map (Value.int .u8)).toArray 5)).heap[w.heap.size]? = some (.cells (l.map (Value.int .u8)).toArray 5 (0, 0)) := by
    show (w.heap.push _)[w.heap.size]? = _
    simp
  rw [blk_cell hblk q]
  simp [List.getD_eq_getElem?_getD, hq]
theorem or192 {x : Int} (h0 : 0 ≤ x) (h1 : x < 32) : bits .or .u8 192 x = 192 + x := by
  have : ∀ n : Fin 32, bits .or .u8 192 (n.val : Int) = 192 + n.val := by decide
  have h := this ⟨x.toNat, by omega⟩
  simpa [Int.toNat_of_nonneg h0] using h
theorem or224 {x : Int} (h0 : 0 ≤ x) (h1 : x < 16) : bits .or .u8 224 x = 224 + x := by
  have : ∀ n : Fin 16, bits .or .u8 224 (n.val : Int) = 224 + n.val := by decide
  have h := this ⟨x.toNat, by omega⟩
  simpa [Int.toNat_of_nonneg h0] using h
theorem or240 {x : Int} (h0 : 0 ≤ x) (h1 : x < 8) : bits .or .u8 240 x = 240 + x := by
  have : ∀ n : Fin 8, bits .or .u8 240 (n.val : Int) = 240 + n.val := by decide
  have h := this ⟨x.toNat, by omega⟩
  simpa [Int.toNat_of_nonneg h0] using h
set_option maxHeartbeats 4000000 in
set_option maxRecDepth 100000 in
theorem appendBig_calls (base : Nat) (w0 w : World) (v : Value) (l : Bs) (r : Int) (hr : BytesAt base w0 w v l) (hl : l.length < 2 ^ 40) (h0 : 128 ≤ r) (h1 : r ≤ 1114111) (h2 : ¬ (55296 ≤ r ∧ r ≤ 57343)) :
    Calls Tryd.prog 93 #[v, .int .i32 r] w fun e w' => ∃ v', e = .returned v' ∧ BytesAt base w0 w' v' (l ++ enc r) := by
  obtain ⟨A, c, rfl⟩ := Kd.R_slice hr.row
  have HR := Aside0.mk hr
  have hm : r % 4294967296 = r := Int.emod_eq_of_lt (by omega) (by omega)
  clear hr
  by_cases c1 : r ≤ 2047
  · have hd1 : decide (r ≤ 2047) = true := decide_eq_true c1
    have hq : r / 64 % 256 = r / 64 := Int.emod_eq_of_lt (by omega) (by omega)
    have ho := or192 (x := r / 64) (by omega) (by omega)
    have HE := Aside0.mk (show enc r = [192 + r / 64, 128 + r % 64] by unfold enc; rw [if_neg (by omega), if_pos (by omega)])
    go_enter Tryd.func93, Tryd.ntmps93
    clear h0 h1 h2 c1
    go_wp2_with (((with_reducible refine gate_builtin (b := .append) (xs := #[.tmp 14, .tmp 23]) rfl ?_); at_builtin; refine Kd.R_append_row (Value.int .u8) (0 : Int) (h1 := fun _ => rfl) (w0 := w0) base rfl (.tmp 14) (.tmp 23) 42 5 (.int .u8 0) 1 rfl Tryd.underlying42 info5 rfl (by decide) (.slice A l.length c) l [192 + r / 64, 128 + r % 64] (some ⟨w.heap.size, 0, none⟩) 2 2 (fun _ => True) rfl rfl (fun _ _ => trivial) (HR.out.under (below_one _ _)).row (box_C w [192 + r / 64, 128 + r % 64] (by simp)) (HR.out.under (below_one _ _)).below (HR.out.under (below_one _ _)).size (by simp; omega) ?_; intro v8 w8 hr8 hb8 hg8 hm8; have HA := Aside0.mk (BytesAt.mk hr8 hb8 (Nat.le_trans (HR.out.under (below_one _ _)).size hg8.size)); clear hr8 hb8 hg8 hm8))
    go_ret
    exact ⟨v8, rfl, by rw [HE.out]; exact HA.out⟩
  · have hd1 : decide (r ≤ 2047) = false := decide_eq_false c1
    by_cases c2 : r ≤ 65535
    · have HE := Aside0.mk (show enc r = [224 + r / 4096, 128 + r / 64 % 64, 128 + r % 64] by unfold enc; rw [if_neg (by omega), if_neg (by omega), if_pos (by omega)])
      have hq : r / 4096 % 256 = r / 4096 := Int.emod_eq_of_lt (by omega) (by omega)
      have ho := or224 (x := r / 4096) (by omega) (by omega)
      by_cases c3 : r < 55296
      · have hd3 : decide (r < 55296) = true := decide_eq_true c3
        clear h0 h1 h2 c1 c2 c3
        go_enter Tryd.func93, Tryd.ntmps93
        go_wp2_with (((with_reducible refine gate_builtin (b := .append) (xs := #[.tmp 34, .tmp 48]) rfl ?_); at_builtin; refine Kd.R_append_row (Value.int .u8) (0 : Int) (h1 := fun _ => rfl) (w0 := w0) base rfl (.tmp 34) (.tmp 48) 42 5 (.int .u8 0) 1 rfl Tryd.underlying42 info5 rfl (by decide) (.slice A l.length c) l [224 + r / 4096, 128 + r / 64 % 64, 128 + r % 64] (some ⟨w.heap.size, 0, none⟩) 3 3 (fun _ => True) rfl rfl (fun _ _ => trivial) (HR.out.under (below_one _ _)).row (box_C w [224 + r / 4096, 128 + r / 64 % 64, 128 + r % 64] (by simp)) (HR.out.under (below_one _ _)).below (HR.out.under (below_one _ _)).size (by simp; omega) ?_; intro v8 w8 hr8 hb8 hg8 hm8; have HA := Aside0.mk (BytesAt.mk hr8 hb8 (Nat.le_trans (HR.out.under (below_one _ _)).size hg8.size)); clear hr8 hb8 hg8 hm8))
        go_ret
        exact ⟨v8, rfl, by rw [HE.out]; exact HA.out⟩
      · have hd3 : decide (r < 55296) = false := decide_eq_false c3
        have hd4 : decide (57343 < r) = true := decide_eq_true (by omega)
        have hd5 : decide (r ≤ 65535) = true := decide_eq_true c2
        clear h0 h1 h2 c1 c2 c3
        go_enter Tryd.func93, Tryd.ntmps93
        go_wp2_with (((with_reducible refine gate_builtin (b := .append) (xs := #[.tmp 34, .tmp 48]) rfl ?_); at_builtin; refine Kd.R_append_row (Value.int .u8) (0 : Int) (h1 := fun _ => rfl) (w0 := w0) base rfl (.tmp 34) (.tmp 48) 42 5 (.int .u8 0) 1 rfl Tryd.underlying42 info5 rfl (by decide) (.slice A l.length c) l [224 + r / 4096, 128 + r / 64 % 64, 128 + r % 64] (some ⟨w.heap.size, 0, none⟩) 3 3 (fun _ => True) rfl rfl (fun _ _ => trivial) (HR.out.under (below_one _ _)).row (box_C w [224 + r / 4096, 128 + r / 64 % 64, 128 + r % 64] (by simp)) (HR.out.under (below_one _ _)).below (HR.out.under (below_one _ _)).size (by simp; omega) ?_; intro v8 w8 hr8 hb8 hg8 hm8; have HA := Aside0.mk (BytesAt.mk hr8 hb8 (Nat.le_trans (HR.out.under (below_one _ _)).size hg8.size)); clear hr8 hb8 hg8 hm8))
        go_ret
        exact ⟨v8, rfl, by rw [HE.out]; exact HA.out⟩
    · have HE := Aside0.mk (show enc r = [240 + r / 262144, 128 + r / 4096 % 64, 128 + r / 64 % 64, 128 + r % 64] by unfold enc; rw [if_neg (by omega), if_neg (by omega), if_neg (by omega)])
      have hq : r / 262144 % 256 = r / 262144 := Int.emod_eq_of_lt (by omega) (by omega)
      have ho := or240 (x := r / 262144) (by omega) (by omega)
      have hd3 : decide (r < 55296) = false := decide_eq_false (by omega)
      have hd4 : decide (57343 < r) = true := decide_eq_true (by omega)
      have hd5 : decide (r ≤ 65535) = false := decide_eq_false c2
      have hd6 : decide (65535 < r) = true := decide_eq_true (by omega)
      have hd7 : decide (r ≤ 1114111) = true := decide_eq_true h1
      clear h0 h1 h2 c1 c2
      go_enter Tryd.func93, Tryd.ntmps93
      go_wp2_with (((with_reducible refine gate_builtin (b := .append) (xs := #[.tmp 57, .tmp 76]) rfl ?_); at_builtin; refine Kd.R_append_row (Value.int .u8) (0 : Int) (h1 := fun _ => rfl) (w0 := w0) base rfl (.tmp 57) (.tmp 76) 42 5 (.int .u8 0) 1 rfl Tryd.underlying42 info5 rfl (by decide) (.slice A l.length c) l [240 + r / 262144, 128 + r / 4096 % 64, 128 + r / 64 % 64, 128 + r % 64] (some ⟨w.heap.size, 0, none⟩) 4 4 (fun _ => True) rfl rfl (fun _ _ => trivial) (HR.out.under (below_one _ _)).row (box_C w [240 + r / 262144, 128 + r / 4096 % 64, 128 + r / 64 % 64, 128 + r % 64] (by simp)) (HR.out.under (below_one _ _)).below (HR.out.under (below_one _ _)).size (by simp; omega) ?_; intro v8 w8 hr8 hb8 hg8 hm8; have HA := Aside0.mk (BytesAt.mk hr8 hb8 (Nat.le_trans (HR.out.under (below_one _ _)).size hg8.size)); clear hr8 hb8 hg8 hm8))
      go_ret
      exact ⟨v8, rfl, by rw [HE.out]; exact HA.out⟩
set_option maxHeartbeats 4000000 in
set_option maxRecDepth 100000 in
theorem appendRune_calls (base : Nat) (w0 w : World) (v : Value) (l : Bs) (r : Int) (hr : BytesAt base w0 w v l) (hl : l.length < 2 ^ 40) (h0 : 0 ≤ r) (h1 : r ≤ 1114111) (h2 : ¬ (55296 ≤ r ∧ r ≤ 57343)) :
    Calls Tryd.prog 86 #[v, .int .i32 r] w fun e w' => ∃ v', e = .returned v' ∧ BytesAt base w0 w' v' (l ++ enc r) := by
  obtain ⟨A, c, rfl⟩ := Kd.R_slice hr.row
  have HR := Aside0.mk hr
  have hm : r % 4294967296 = r := Int.emod_eq_of_lt (by omega) (by omega)
  clear hr
  by_cases c1 : r ≤ 127
  · have hd1 : decide (r ≤ 127) = true := decide_eq_true c1
    have hq : r % 256 = r := Int.emod_eq_of_lt (by omega) (by omega)
    have HE := Aside0.mk (show enc r = [r] by unfold enc; rw [if_pos (by omega)])
    clear h0 h1 h2 c1
    go_enter Tryd.func86, Tryd.ntmps86
    go_wp2_with (((with_reducible refine gate_builtin (b := .append) (xs := #[.tmp 8, .tmp 11]) rfl ?_); at_builtin; refine Kd.R_append_row (Value.int .u8) (0 : Int) (h1 := fun _ => rfl) (w0 := w0) base rfl (.tmp 8) (.tmp 11) 42 5 (.int .u8 0) 1 rfl Tryd.underlying42 info5 rfl (by decide) (.slice A l.length c) l [r] (some ⟨w.heap.size, 0, none⟩) 1 1 (fun _ => True) rfl rfl (fun _ _ => trivial) (HR.out.under (below_one _ _)).row (box_C w [r] (by simp)) (HR.out.under (below_one _ _)).below (HR.out.under (below_one _ _)).size (by simp; omega) ?_; intro v8 w8 hr8 hb8 hg8 hm8; have HA := Aside0.mk (BytesAt.mk hr8 hb8 (Nat.le_trans (HR.out.under (below_one _ _)).size hg8.size)); clear hr8 hb8 hg8 hm8))
    go_ret
    exact ⟨v8, rfl, by rw [HE.out]; exact HA.out⟩
  · have hd1 : decide (r ≤ 127) = false := decide_eq_false c1
    have HB := Aside0.mk (appendBig_calls base w0 w (.slice A l.length c) l r HR.out hl (by omega) h1 h2)
    clear h0 h1 h2 c1
    go_enter Tryd.func86, Tryd.ntmps86
    go_wp2_with ((go_at_call 93; refine HB.out.mono ?_; rintro e w8 ⟨v8, rfl, hb8⟩; have HA := Aside0.mk hb8; clear hb8))
    go_ret
    exact ⟨v8, rfl, HA.out⟩
end Go.Proofs.YtnjnoabldjodcaaDoor.Tok
set_option linter.unusedVariables false
set_option linter.unusedSimpArgs false
namespace Go.Proofs.YtnjnoabldjodcaaDoor.Tok
open Go.RowKit Go.Proofs.YtnjnoabldjodcaaDoorW.PrintWords Go.Proofs.YtnjnoabldjodcaaDoorW.PrintLast Go.Proofs.YtnjnoabldjodcaaDoorW.PrintMore Go.Proofs.YtnjnoabldjodcaaDoor.PFnExactTokens
theorem byte_lit (w : World) : BytesAt w.heap.size w (w.alloc (.cells #[] 5)) (.slice (some ⟨w.heap.size, 0, none⟩) 0 0) [] := by
  refine ⟨⟨fun _ _ => trivial, [], ⟨by simp, .inr ⟨w.heap.size, 0, #[], rfl, Nat.le_refl _, (show (w.heap.push _)[w.heap.size]? = _ by simp), Nat.le_refl _, Nat.zero_le _, by simp, by simp⟩⟩, ?_⟩, below_one w _, (below_one w _).size⟩
  exact Reps.none _ _
theorem BytesAt.put {base : Nat} {w0 wr w8 : World} {v v8 : Value} {l l8 : Bs} (h : BytesAt base w0 wr v l) (ho : w8.ownsRow base 5 1 v8 l8.length (nums .u8 l8)) (hb : Below base w0 w8) (hg : wr.grownBy w8 v.ownBlock) : BytesAt base w0 w8 v8 l8 :=
  ⟨Kd.R_of_own (h1 := fun _ => rfl) ho (fun _ _ => trivial), hb, Nat.le_trans h.size hg.size⟩
set_option maxRecDepth 100000 in
theorem BytesAt.string {base : Nat} {w0 wr : World} {A : Option Addr} {n c : Nat} {l : Bs} (h : BytesAt base w0 wr (.slice A n c) l) : (convert 42 9 (.slice A n c)).run Tryd.prog wr = .ok (.string (S l)) wr := by
  obtain ⟨A', c', he, _, hr⟩ := Kd.R_reads h.row
  injection he with h1 h2 h3
  subst h1; subst h2; subst h3
  exact Kd.C_string (P := Tryd.prog) Tryd.underlying42 Tryd.underlying5 Tryd.underlying9 hr
theorem off_not {x : Int} (h : off x = false) : 0 ≤ x ∧ x ≤ 1114111 ∧ ¬ (55296 ≤ x ∧ x ≤ 57343) := by
  unfold off at h
  simp only [Bool.or_eq_false_iff, Bool.and_eq_false_iff, decide_eq_false_iff_not] at h
  omega
theorem bad_bytes : bytesOf (⟨#[239, 191, 189]⟩ : ByteArray) = enc 65533 := by decide
theorem off_yes {x : Int} (h : off x = true) : x < 0 ∨ x > 1114111 ∨ (55296 ≤ x ∧ x ≤ 57343) := by
  unfold off at h
  simp only [Bool.or_eq_true, Bool.and_eq_true, decide_eq_true_eq] at h
  omega
set_option maxHeartbeats 4000000 in
set_option maxRecDepth 100000 in
theorem encode_calls (w : World) (ad : Addr) (c : Nat) (x : Int) (hx : w.cell? ad = some (.int .i64 x)) (hblk : ad.block < w.heap.size) :
    Calls Tryd.prog 79 #[.slice (some ad) 1 c] w fun e w' => e = .returned (.string (S (put x))) ∧ Below w.heap.size w w' := by
  have HX := Aside0.mk hx
  clear hx
  go_enter Tryd.func79, Tryd.ntmps79
  go_upto_region 3 with (fail)
  have hlit := byte_lit w
  generalize hw1 : World.alloc _ _ = w1
  rw [hw1] at hlit
  have HL := Aside0.mk hlit
  clear hw1 hlit
  go_loopg [3, 9] 2 (fun kq v3 v9 wr => ∃ (j : Nat) (l : Bs), v9 = .int .i64 j ∧ Aside0 (BytesAt w.heap.size w wr v3 l) ∧ Aside0 ((j = 0 ∧ l = [] ∧ kq = 2) ∨ (j = 1 ∧ l = put x ∧ 1 ≤ kq)))
  case atStart => exact ⟨0, [], rfl, HL, ⟨.inl ⟨rfl, rfl, rfl⟩⟩⟩
  case round =>
    obtain ⟨j, l, rfl, HB, HJ⟩ := hrel
    rcases HJ.out with ⟨rfl, rfl, rfl⟩ | ⟨rfl, rfl, hk⟩
    · clear HJ
      have hxr : wr.cell? ad = some (.int .i64 x) := by rw [HB.out.below.cell (p := ad) hblk]; exact HX.out
      obtain ⟨A, c3, e3⟩ := Kd.R_slice HB.out.row
      subst e3
      clear hblk
      rcases hoff : off x with _ | _
      · have hr := off_not hoff
        have HR := Aside0.mk hr
        have HO := Aside0.mk hoff
        have h1 : decide (x < 0) = false := decide_eq_false (by omega)
        have h2 : decide (1114111 < x) = false := decide_eq_false (by omega)
        have hm : IntKind.i32.wrap x = x := by rw [IntKind.wrap_i32]; omega
        clear hr hoff
        by_cases c3_ : 55296 ≤ x
        · have h3 : decide (55296 ≤ x) = true := decide_eq_true c3_
          have h4 : decide (x ≤ 57343) = false := decide_eq_false (by have := HR.out; omega)
          clear c3_
          go_wp2_with ((go_at_call 86; refine (appendRune_calls w.heap.size w _ _ [] x HB.out (by simp) HR.out.1 HR.out.2.1 HR.out.2.2).mono ?_; rintro e w8 ⟨v8, rfl, hb8⟩; have HA := Aside0.mk hb8; clear hb8))
          go_roundg 1
          case measure => omega
          case rel => exact ⟨1, _, rfl, HA, ⟨.inr ⟨rfl, by unfold put; rw [HO.out, if_neg (by decide)]; rfl, Nat.le_refl _⟩⟩⟩
        · have h3 : decide (55296 ≤ x) = false := decide_eq_false c3_
          clear c3_
          go_wp2_with ((go_at_call 86; refine (appendRune_calls w.heap.size w _ _ [] x HB.out (by simp) HR.out.1 HR.out.2.1 HR.out.2.2).mono ?_; rintro e w8 ⟨v8, rfl, hb8⟩; have HA := Aside0.mk hb8; clear hb8))
          go_roundg 1
          case measure => omega
          case rel => exact ⟨1, _, rfl, HA, ⟨.inr ⟨rfl, by unfold put; rw [HO.out, if_neg (by decide)]; rfl, Nat.le_refl _⟩⟩⟩
      · have hr := off_yes hoff
        have HO := Aside0.mk hoff
        clear hoff
        rcases hr with hr | hr | hr
        · have h1 : decide (x < 0) = true := decide_eq_true hr
          clear hr
          go_wp2_with ((at_builtin; refine print_append_str (w0 := w) w.heap.size rfl (.tmp 27) _ 42 9 5 rfl Tryd.underlying42 Tryd.underlying9 info5 (.slice A ([] : List Int).length c3) ([] : List Int) (⟨#[239, 191, 189]⟩ : ByteArray) rfl rfl (Kd.own_of_R HB.out.row) HB.out.below HB.out.size (by decide) ?_; intro v8 w8 ho8 hb8 hg8; have HA := Aside0.mk (HB.out.put ho8 hb8 hg8); clear ho8 hb8 hg8))
          go_roundg 1
          case measure => omega
          case rel => exact ⟨1, _, rfl, HA, ⟨.inr ⟨rfl, by unfold put; rw [HO.out, if_pos rfl, ← bad_bytes]; rfl, Nat.le_refl _⟩⟩⟩
        · have h1 : decide (x < 0) = false := decide_eq_false (by omega)
          have h2 : decide (1114111 < x) = true := decide_eq_true (by omega)
          clear hr
          go_wp2_with ((at_builtin; refine print_append_str (w0 := w) w.heap.size rfl (.tmp 27) _ 42 9 5 rfl Tryd.underlying42 Tryd.underlying9 info5 (.slice A ([] : List Int).length c3) ([] : List Int) (⟨#[239, 191, 189]⟩ : ByteArray) rfl rfl (Kd.own_of_R HB.out.row) HB.out.below HB.out.size (by decide) ?_; intro v8 w8 ho8 hb8 hg8; have HA := Aside0.mk (HB.out.put ho8 hb8 hg8); clear ho8 hb8 hg8))
          go_roundg 1
          case measure => omega
          case rel => exact ⟨1, _, rfl, HA, ⟨.inr ⟨rfl, by unfold put; rw [HO.out, if_pos rfl, ← bad_bytes]; rfl, Nat.le_refl _⟩⟩⟩
        · have h1 : decide (x < 0) = false := decide_eq_false (by omega)
          have h2 : decide (1114111 < x) = false := decide_eq_false (by omega)
          have h3 : decide (55296 ≤ x) = true := decide_eq_true hr.1
          have h4 : decide (x ≤ 57343) = true := decide_eq_true hr.2
          clear hr
          go_wp2_with ((at_builtin; refine print_append_str (w0 := w) w.heap.size rfl (.tmp 27) _ 42 9 5 rfl Tryd.underlying42 Tryd.underlying9 info5 (.slice A ([] : List Int).length c3) ([] : List Int) (⟨#[239, 191, 189]⟩ : ByteArray) rfl rfl (Kd.own_of_R HB.out.row) HB.out.below HB.out.size (by decide) ?_; intro v8 w8 ho8 hb8 hg8; have HA := Aside0.mk (HB.out.put ho8 hb8 hg8); clear ho8 hb8 hg8))
          go_roundg 1
          case measure => omega
          case rel => exact ⟨1, _, rfl, HA, ⟨.inr ⟨rfl, by unfold put; rw [HO.out, if_pos rfl, ← bad_bytes]; rfl, Nat.le_refl _⟩⟩⟩
    · clear HJ
      obtain ⟨A, c3, e3⟩ := Kd.R_slice HB.out.row
      subst e3
      have hs := HB.out.string
      go_wp2
      go_ret
      exact ⟨rfl, HB.out.below⟩
end Go.Proofs.YtnjnoabldjodcaaDoor.Tok
namespace Go.Proofs.YtnjnoabldjodcaaDoor.PFnExactTokens
open Go.RowKit Go.Proofs.YtnjnoabldjodcaaDoorW.PrintWords Go.Proofs.YtnjnoabldjodcaaDoorW.PrintLast Go.Proofs.YtnjnoabldjodcaaDoorW.PrintMore Go.Proofs.YtnjnoabldjodcaaDoor.Tok
def impl_Encode.f (_ : Nat) (l : List Int) : Option ByteArray := if l.length = 1 then some (S (put (l.headD 0))) else none
theorem impl_Encode.mono : ∀ a0 k, LeO (impl_Encode.f k a0) (impl_Encode.f (k + 1) a0) := fun _ _ _ h => h
theorem impl_Encode.calls (k : Nat) (A0 : Option Addr) (c0 : Nat) (l0 : List Int) (r : ByteArray) (w : World) (hr0 : Kd.C (Kd.int .i64) w A0 l0.length l0) (hc0 : l0.length ≤ c0) (h : impl_Encode.f k l0 = some r) :
    Calls Tryd.prog 79 #[.slice A0 l0.length c0] w fun e w' => e = .returned (.string r) ∧ Below w.heap.size w w' := by
  unfold impl_Encode.f at h
  split at h
  · rename_i h1
    match l0, h1 with
    | [x], _ =>
      injection h with h
      subst h
      obtain ⟨ad, rfl, hc⟩ := Kd.at_int hr0 0 (by decide) (by simp)
      exact encode_calls w ad c0 x hc (World.block_lt_of_cell? w _ hc)
  · cases h
end Go.Proofs.YtnjnoabldjodcaaDoor.PFnExactTokens
namespace Go.Proofs.YtnjnoabldjodcaaDoor.PFnExactTokens
open Go.RowKit Go.Proofs.YtnjnoabldjodcaaDoorW.PrintWords Go.Proofs.YtnjnoabldjodcaaDoorW.PrintLast Go.Proofs.YtnjnoabldjodcaaDoorW.PrintMore
attribute [local go_sem] max2_int min2_int max_two min_two max_three min_three max_four min_four
set_option linter.unusedVariables false
set_option linter.unusedSimpArgs false
mutual
def impl_numbered.j0 : Nat → ByteArray → Int → Bool → Option (ByteArray × Int)
  | 0, _, _, _ => none
  | k + 1, x0, x4, x5 => if x5 = true then (impl_numbered.j1 k x0 1 x5) else (impl_numbered.j1 k x0 x4 x5)
def impl_numbered.j1 : Nat → ByteArray → Int → Bool → Option (ByteArray × Int)
  | 0, _, _, _ => none
  | k + 1, x0, x4, x5 => impl_numbered.l0 k x0 x4 x5 x4 0
def impl_numbered.l0 : Nat → ByteArray → Int → Bool → Int → Int → Option (ByteArray × Int)
  | 0, _, _, _, _, _ => none
  | k + 1, x0, x4, x5, x6, x7 => if x4 < (x0.size : Int) then (if 0 ≤ x4 then ((impl_digitOf.f k (bt x0 x4) x5).bind fun t325 => (impl_numbered.j3 k x0 x4 x5 x6 x7 (decide (t325 ≥ 0)))) else (none)) else (impl_numbered.j3 k x0 x4 x5 x6 x7 false)
def impl_numbered.j3 : Nat → ByteArray → Int → Bool → Int → Int → Bool → Option (ByteArray × Int)
  | 0, _, _, _, _, _, _ => none
  | k + 1, x0, x4, x5, x6, x7, x34 => if x34 = true then (if x5 = true then (if 0 ≤ x4 then (if x4 < (x0.size : Int) then ((impl_digitOf.f k (bt x0 x4) x5).bind fun t326 => (impl_numbered.l0 k x0 (wrap64 (x4 + 1)) x5 x6 (mn (wrap64 ((wrap64 (x7 * 16)) + t326)) 1114112))) else (none)) else (none)) else (if 0 ≤ x4 then (if x4 < (x0.size : Int) then ((impl_digitOf.f k (bt x0 x4) x5).bind fun t327 => (impl_numbered.l0 k x0 (wrap64 (x4 + 1)) x5 x6 (mn (wrap64 ((wrap64 (x7 * 10)) + t327)) 1114112))) else (none)) else (none))) else (if x4 = x6 then (some ((⟨#[]⟩ : ByteArray), 0)) else (if x4 < (x0.size : Int) then (if 0 ≤ x4 then (impl_numbered.j4 k x4 x7 ((bt x0 x4) == 59)) else (none)) else (impl_numbered.j4 k x4 x7 false)))
def impl_numbered.j4 : Nat → Int → Int → Bool → Option (ByteArray × Int)
  | 0, _, _, _ => none
  | k + 1, x4, x7, x60 => if x60 = true then (if x7 = 0 then ((impl_Encode.f k (([65533] : List Int))).bind fun t331 => (some (t331, wrap64 ((wrap64 (x4 + 1)) + 2)))) else ((impl_Encode.f k (([x7] : List Int))).bind fun t335 => (some (t335, wrap64 ((wrap64 (x4 + 1)) + 2))))) else (if x7 = 0 then ((impl_Encode.f k (([65533] : List Int))).bind fun t339 => (some (t339, wrap64 (x4 + 2)))) else ((impl_Encode.f k (([x7] : List Int))).bind fun t343 => (some (t343, wrap64 (x4 + 2)))))
end
def impl_numbered.f (k : Nat) (a0 : ByteArray) : Option (ByteArray × Int) := if a0.toList = ([] : List UInt8) then (impl_numbered.j0 k a0 0 false) else (if 0 < (a0.size : Int) then (if (bt a0 0) = 120 then (impl_numbered.j0 k a0 0 true) else (impl_numbered.j0 k a0 0 ((bt a0 0) == 88))) else (none))
theorem impl_numbered.mono_l : ∀ k, (∀ y0 y1 y2, LeO (impl_numbered.j0 k y0 y1 y2) (impl_numbered.j0 (k + 1) y0 y1 y2)) ∧ (∀ y0 y1 y2, LeO (impl_numbered.j1 k y0 y1 y2) (impl_numbered.j1 (k + 1) y0 y1 y2)) ∧ (∀ y0 y1 y2 y3 y4, LeO (impl_numbered.l0 k y0 y1 y2 y3 y4) (impl_numbered.l0 (k + 1) y0 y1 y2 y3 y4)) ∧ (∀ y0 y1 y2 y3 y4 y5, LeO (impl_numbered.j3 k y0 y1 y2 y3 y4 y5) (impl_numbered.j3 (k + 1) y0 y1 y2 y3 y4 y5)) ∧ (∀ y0 y1 y2, LeO (impl_numbered.j4 k y0 y1 y2) (impl_numbered.j4 (k + 1) y0 y1 y2))
  | 0 => ⟨fun _ _ _ r h => by simp [impl_numbered.j0] at h, fun _ _ _ r h => by simp [impl_numbered.j1] at h, fun _ _ _ _ _ r h => by simp [impl_numbered.l0] at h, fun _ _ _ _ _ _ r h => by simp [impl_numbered.j3] at h, fun _ _ _ r h => by simp [impl_numbered.j4] at h⟩
  | k + 1 => by
    obtain ⟨ih0, ih1, ih2, ih3, ih4⟩ := impl_numbered.mono_l k
    refine ⟨?_, ?_, ?_, ?_, ?_⟩
    · intro y0 y1 y2
      unfold impl_numbered.j0
      repeat' first
      | (with_reducible exact ih0 _ _ _)
      | (with_reducible exact ih1 _ _ _)
      | (with_reducible exact ih2 _ _ _ _ _)
      | (with_reducible exact ih3 _ _ _ _ _ _)
      | (with_reducible exact ih4 _ _ _)
      | (with_reducible exact impl_Encode.mono _ _)
      | (with_reducible exact impl_digitOf.mono _ _ _)
      | (with_reducible exact LeO.refl _)
      | (with_reducible exact LeO.none _)
      | (with_reducible refine LeO.ite ?_ ?_)
      | (with_reducible refine LeO.bind ?_ (fun _ => ?_))
      | exact ih0 _ _ _
      | exact ih1 _ _ _
      | exact ih2 _ _ _ _ _
      | exact ih3 _ _ _ _ _ _
      | exact ih4 _ _ _
      | exact impl_Encode.mono _ _
      | exact impl_digitOf.mono _ _ _
      | exact LeO.none _
      | refine LeO.ite ?_ ?_
      | refine LeO.bind ?_ (fun _ => ?_)
    · intro y0 y1 y2
      unfold impl_numbered.j1
      repeat' first
      | (with_reducible exact ih0 _ _ _)
      | (with_reducible exact ih1 _ _ _)
      | (with_reducible exact ih2 _ _ _ _ _)
      | (with_reducible exact ih3 _ _ _ _ _ _)
      | (with_reducible exact ih4 _ _ _)
      | (with_reducible exact impl_Encode.mono _ _)
      | (with_reducible exact impl_digitOf.mono _ _ _)
      | (with_reducible exact LeO.refl _)
      | (with_reducible exact LeO.none _)
      | (with_reducible refine LeO.ite ?_ ?_)
      | (with_reducible refine LeO.bind ?_ (fun _ => ?_))
      | exact ih0 _ _ _
      | exact ih1 _ _ _
      | exact ih2 _ _ _ _ _
      | exact ih3 _ _ _ _ _ _
      | exact ih4 _ _ _
      | exact impl_Encode.mono _ _
      | exact impl_digitOf.mono _ _ _
      | exact LeO.none _
      | refine LeO.ite ?_ ?_
      | refine LeO.bind ?_ (fun _ => ?_)
    · intro y0 y1 y2 y3 y4
      unfold impl_numbered.l0
      repeat' first
      | (with_reducible exact ih0 _ _ _)
      | (with_reducible exact ih1 _ _ _)
      | (with_reducible exact ih2 _ _ _ _ _)
      | (with_reducible exact ih3 _ _ _ _ _ _)
      | (with_reducible exact ih4 _ _ _)
      | (with_reducible exact impl_Encode.mono _ _)
      | (with_reducible exact impl_digitOf.mono _ _ _)
      | (with_reducible exact LeO.refl _)
      | (with_reducible exact LeO.none _)
      | (with_reducible refine LeO.ite ?_ ?_)
      | (with_reducible refine LeO.bind ?_ (fun _ => ?_))
      | exact ih0 _ _ _
      | exact ih1 _ _ _
      | exact ih2 _ _ _ _ _
      | exact ih3 _ _ _ _ _ _
      | exact ih4 _ _ _
      | exact impl_Encode.mono _ _
      | exact impl_digitOf.mono _ _ _
      | exact LeO.none _
      | refine LeO.ite ?_ ?_
      | refine LeO.bind ?_ (fun _ => ?_)
    · intro y0 y1 y2 y3 y4 y5
      unfold impl_numbered.j3
      repeat' first
      | (with_reducible exact ih0 _ _ _)
      | (with_reducible exact ih1 _ _ _)
      | (with_reducible exact ih2 _ _ _ _ _)
      | (with_reducible exact ih3 _ _ _ _ _ _)
      | (with_reducible exact ih4 _ _ _)
      | (with_reducible exact impl_Encode.mono _ _)
      | (with_reducible exact impl_digitOf.mono _ _ _)
      | (with_reducible exact LeO.refl _)
      | (with_reducible exact LeO.none _)
      | (with_reducible refine LeO.ite ?_ ?_)
      | (with_reducible refine LeO.bind ?_ (fun _ => ?_))
      | exact ih0 _ _ _
      | exact ih1 _ _ _
      | exact ih2 _ _ _ _ _
      | exact ih3 _ _ _ _ _ _
      | exact ih4 _ _ _
      | exact impl_Encode.mono _ _
      | exact impl_digitOf.mono _ _ _
      | exact LeO.none _
      | refine LeO.ite ?_ ?_
      | refine LeO.bind ?_ (fun _ => ?_)
    · intro y0 y1 y2
      unfold impl_numbered.j4
      repeat' first
      | (with_reducible exact ih0 _ _ _)
      | (with_reducible exact ih1 _ _ _)
      | (with_reducible exact ih2 _ _ _ _ _)
      | (with_reducible exact ih3 _ _ _ _ _ _)
      | (with_reducible exact ih4 _ _ _)
      | (with_reducible exact impl_Encode.mono _ _)
      | (with_reducible exact impl_digitOf.mono _ _ _)
      | (with_reducible exact LeO.refl _)
      | (with_reducible exact LeO.none _)
      | (with_reducible refine LeO.ite ?_ ?_)
      | (with_reducible refine LeO.bind ?_ (fun _ => ?_))
      | exact ih0 _ _ _
      | exact ih1 _ _ _
      | exact ih2 _ _ _ _ _
      | exact ih3 _ _ _ _ _ _
      | exact ih4 _ _ _
      | exact impl_Encode.mono _ _
      | exact impl_digitOf.mono _ _ _
      | exact LeO.none _
      | refine LeO.ite ?_ ?_
      | refine LeO.bind ?_ (fun _ => ?_)
theorem impl_numbered.mono : ∀ a0 k, LeO (impl_numbered.f k a0) (impl_numbered.f (k + 1) a0) := by
  intro a0 k
  obtain ⟨ih0, ih1, ih2, ih3, ih4⟩ := impl_numbered.mono_l k
  unfold impl_numbered.f
  repeat' first
      | (with_reducible exact ih0 _ _ _)
      | (with_reducible exact ih1 _ _ _)
      | (with_reducible exact ih2 _ _ _ _ _)
      | (with_reducible exact ih3 _ _ _ _ _ _)
      | (with_reducible exact ih4 _ _ _)
      | (with_reducible exact impl_Encode.mono _ _)
      | (with_reducible exact impl_digitOf.mono _ _ _)
      | (with_reducible exact LeO.refl _)
      | (with_reducible exact LeO.none _)
      | (with_reducible refine LeO.ite ?_ ?_)
      | (with_reducible refine LeO.bind ?_ (fun _ => ?_))
      | exact ih0 _ _ _
      | exact ih1 _ _ _
      | exact ih2 _ _ _ _ _
      | exact ih3 _ _ _ _ _ _
      | exact ih4 _ _ _
      | exact impl_Encode.mono _ _
      | exact impl_digitOf.mono _ _ _
      | exact LeO.none _
      | refine LeO.ite ?_ ?_
      | refine LeO.bind ?_ (fun _ => ?_)
set_option maxHeartbeats 8000000 in
set_option maxRecDepth 100000 in
theorem impl_numbered.calls (k : Nat) (a0 : ByteArray) (r1 : ByteArray) (r2 : Int) (w : World) (h : impl_numbered.f k a0 = some (r1, r2)) :
    Calls Tryd.prog 77 #[.string a0] w fun e w' => e = .returned (.tuple #[.string r1, .int .i64 r2]) ∧ Below w.heap.size w w' := by
  have HB := am (Below.refl w.heap.size w)
  have H := h
  clear h
  unfold impl_numbered.f at H
  have HC2 := am H
  clear H
  go_enter Tryd.func77, Tryd.ntmps77
  go_upto_region 2 with (fail)
  go_cut [5] (fun v5 wc => ∃ (kq : Nat) (x5_1 : Bool), v5 = .bool x5_1 ∧ Aside0 (impl_numbered.j0 kq a0 0 x5_1 = some (r1, r2)) ∧ Aside0 (kq ≤ k) ∧ Aside0 (Below w.heap.size w wc))
  case first =>
    have H := HC2.out
    clear HC2
    by_cases c3 : a0.toList = ([] : List UInt8)
    · rw [if_pos c3] at H
      have c3b0 : (a0.toList == ([] : List UInt8)) = true := beq_iff_eq.mpr c3
      have c3b1 : (a0.toList != ([] : List UInt8)) = false := bne_eq_false_iff_eq.mpr c3
      clear c3
      have H' := am H
      clear H
      go_wp2
      go_meet
      case rel => exact ⟨_, (false), rfl, H', ⟨by omega⟩, ⟨by exact HB.out⟩⟩
    · rw [if_neg c3] at H
      have c3b0 : (a0.toList == ([] : List UInt8)) = false := beq_eq_false_iff_ne.mpr c3
      have c3b1 : (a0.toList != ([] : List UInt8)) = true := bne_iff_ne.mpr c3
      obtain ⟨c4, H⟩ := ifn H
      have c4b0 : decide (0 < (a0.size : Int)) = true := decide_eq_true c4
      have c4b1 : decide (0 < a0.size) = true := decide_eq_true (by omega)
      clear c4
      by_cases c6 : (bt a0 0) = 120
      · rw [if_pos c6] at H
        have c6b0 : ((bt a0 0) == 120) = true := beq_iff_eq.mpr c6
        have c6b1 : ((bt a0 0) != 120) = false := bne_eq_false_iff_eq.mpr c6
        clear c6
        have H' := am H
        clear H
        have p5 : 0 ≤ (0 : Int) := (by omega)
        have q5 : 0 < a0.size := (by have : (0 : Int) < (a0.size : Int) := of_decide_eq_true (by with_reducible assumption); omega)
        have hx5 : ∀ h : 0 < a0.size, ((a0[0]'h).toNat : Int) = bt a0 0 := bt_at a0 0
        clear p5
        have qi5 : (0 < (a0.size : Int)) = True := eq_true (of_decide_eq_true (by with_reducible assumption))
        replace q5 := eq_true q5
        go_wp2
        go_meet
        case rel => exact ⟨_, (true), rfl, H', ⟨by omega⟩, ⟨by exact HB.out⟩⟩
      · rw [if_neg c6] at H
        have c6b0 : ((bt a0 0) == 120) = false := beq_eq_false_iff_ne.mpr c6
        have c6b1 : ((bt a0 0) != 120) = true := bne_iff_ne.mpr c6
        have H' := am H
        clear H
        have p5 : 0 ≤ (0 : Int) := (by omega)
        have q5 : 0 < a0.size := (by have : (0 : Int) < (a0.size : Int) := of_decide_eq_true (by with_reducible assumption); omega)
        have hx5 : ∀ h : 0 < a0.size, ((a0[0]'h).toNat : Int) = bt a0 0 := bt_at a0 0
        clear p5
        have qi5 : (0 < (a0.size : Int)) = True := eq_true (of_decide_eq_true (by with_reducible assumption))
        replace q5 := eq_true q5
        have p7 : 0 ≤ (0 : Int) := (by omega)
        have q7 : 0 < a0.size := (by have : (0 : Int) < (a0.size : Int) := of_decide_eq_true (by with_reducible assumption); omega)
        have hx7 : ∀ h : 0 < a0.size, ((a0[0]'h).toNat : Int) = bt a0 0 := bt_at a0 0
        clear p7
        have qi7 : (0 < (a0.size : Int)) = True := eq_true (of_decide_eq_true (by with_reducible assumption))
        replace q7 := eq_true q7
        go_wp2
        go_meet
        case rel => exact ⟨_, (((bt a0 0) == 88)), rfl, H', ⟨by omega⟩, ⟨by exact HB.out⟩⟩
  case rest =>
    clear HC2
    obtain ⟨kq, x5_1, rfl, HA, HJ1, HB⟩ := hcut
    cases kq with
    | zero => exact absurd HA.out (by simp [impl_numbered.j0])
    | succ kj1 =>
      have H := HA.out
      clear HA
      simp only [impl_numbered.j0] at H
      have HC8 := am H
      clear H
      go_upto_if 21 with (fail)
      go_cut [4] (fun v4 wc => ∃ (kq : Nat) (x4_7 : Int), v4 = .int .i64 x4_7 ∧ Aside0 (impl_numbered.j1 kq a0 x4_7 x5_1 = some (r1, r2)) ∧ Aside0 (kq ≤ kj1) ∧ Aside0 (Below w.heap.size w wc))
      case first =>
        have H := HC8.out
        clear HC8
        by_cases c9 : x5_1 = true
        · subst c9
          rw [if_pos rfl] at H
          have H' := am H
          clear H
          go_wp2
          go_meet
          case rel => exact ⟨_, (1), rfl, H', ⟨by have := HJ1.out; omega⟩, ⟨by exact HB.out⟩⟩
        · replace c9 := Bool.eq_false_iff.mpr c9
          subst c9
          rw [if_neg nft] at H
          have H' := am H
          clear H
          go_wp2
          go_meet
          case rel => exact ⟨_, (0), rfl, H', ⟨by have := HJ1.out; omega⟩, ⟨by exact HB.out⟩⟩
      case rest =>
        clear HC8
        obtain ⟨kq, x4_7, rfl, HA, HJ7, HB⟩ := hcut
        cases kq with
        | zero => exact absurd HA.out (by simp [impl_numbered.j1])
        | succ kj7 =>
          have H := HA.out
          clear HA
          simp only [impl_numbered.j1] at H
          have H' := am H
          clear H
          go_wp2
          go_loopg [4, 7] kj7 (fun kq v4 v7 w' => ∃ (x4_3 : Int) (x7_3 : Int), v4 = .int .i64 x4_3 ∧ v7 = .int .i64 x7_3 ∧ Aside0 (impl_numbered.l0 kq a0 x4_3 x5_1 x4_7 x7_3 = some (r1, r2)) ∧ Aside0 (kq ≤ kj7) ∧ Aside0 (Below w.heap.size w w'))
          case atStart => exact ⟨(x4_7), (0), rfl, rfl, H', ⟨Nat.le_refl _⟩, ⟨by exact HB.out⟩⟩
          case round =>
            clear H'
            obtain ⟨x4_3, x7_3, rfl, rfl, HA, HK3, HB⟩ := hrel
            cases gk with
            | zero => exact absurd HA.out (by simp [impl_numbered.l0])
            | succ k3 =>
              have H := HA.out
              clear HA
              simp only [impl_numbered.l0] at H
              have HC10 := am H
              clear H
              go_upto_region 7 with (fail)
              go_cut [34] (fun v34 wc => ∃ (kq : Nat) (x34_9 : Bool), v34 = .bool x34_9 ∧ Aside0 (impl_numbered.j3 kq a0 x4_3 x5_1 x4_7 x7_3 x34_9 = some (r1, r2)) ∧ Aside0 (kq ≤ k3) ∧ Aside0 (Below w.heap.size w wc))
              case first =>
                have H := HC10.out
                clear HC10
                by_cases c11 : x4_3 < (a0.size : Int)
                · rw [if_pos c11] at H
                  have c11b0 : decide (x4_3 < (a0.size : Int)) = true := decide_eq_true c11
                  clear c11
                  obtain ⟨c12b0, H⟩ := ifn1 H
                  obtain ⟨t325, A14, H⟩ := bnd H
                  have H' := am H
                  clear H
                  have p13 : 0 ≤ (x4_3 : Int) := of_decide_eq_true (by with_reducible assumption)
                  have q13 : x4_3 < (a0.size : Int) := of_decide_eq_true (by with_reducible assumption)
                  have hx13 := bt_at a0 x4_3
                  replace p13 := eq_true p13
                  replace q13 := eq_true q13
                  go_wp2_with ((go_at_call 85; (with_reducible refine (impl_digitOf.calls k3 (bt a0 x4_3) x5_1 t325 _ A14.out).mono ?_); rintro e w' ⟨rfl, ⟨nd, rfl⟩⟩))
                  go_meet
                  case rel => exact ⟨_, (decide (t325 ≥ 0)), rfl, H', ⟨by have := HJ1.out; have := HJ7.out; have := HK3.out; omega⟩, ⟨by repeat ((with_reducible first | exact HB.out | apply pw_below_drewN))⟩⟩
                · rw [if_neg c11] at H
                  have c11b0 : decide (x4_3 < (a0.size : Int)) = false := decide_eq_false c11
                  clear c11
                  have H' := am H
                  clear H
                  go_wp2
                  go_meet
                  case rel => exact ⟨_, (false), rfl, H', ⟨by have := HJ1.out; have := HJ7.out; have := HK3.out; omega⟩, ⟨by exact HB.out⟩⟩
              case rest =>
                clear HC10
                obtain ⟨kq, x34_9, rfl, HA, HJ9, HB⟩ := hcut
                cases kq with
                | zero => exact absurd HA.out (by simp [impl_numbered.j3])
                | succ kj9 =>
                  have H := HA.out
                  clear HA
                  simp only [impl_numbered.j3] at H
                  by_cases c15 : x34_9 = true
                  · subst c15
                    rw [if_pos rfl] at H
                    by_cases c16 : x5_1 = true
                    · subst c16
                      rw [if_pos rfl] at H
                      obtain ⟨c17b0, H⟩ := ifn1 H
                      obtain ⟨c18b0, H⟩ := ifn1 H
                      obtain ⟨t326, A20, H⟩ := bnd H
                      obtain ⟨ji21, hji21⟩ : ∃ j_ : Int, (mn (wrap64 ((wrap64 (x7_3 * 16)) + t326)) 1114112) = j_ := ⟨_, rfl⟩
                      rw [hji21] at H
                      have hji21_ : (if 1114112 < (wrap64 ((wrap64 (x7_3 * 16)) + t326)) then 1114112 else (wrap64 ((wrap64 (x7_3 * 16)) + t326))) = ji21 := hji21
                      have H' := am H
                      clear H
                      have p19 : 0 ≤ (x4_3 : Int) := of_decide_eq_true (by with_reducible assumption)
                      have q19 : x4_3 < (a0.size : Int) := of_decide_eq_true (by with_reducible assumption)
                      have hx19 := bt_at a0 x4_3
                      replace p19 := eq_true p19
                      replace q19 := eq_true q19
                      go_wp2_with (((with_reducible refine gate_callee (f := 85) rfl ?_); refine goesL_ (some 43) rfl rfl Tryd.func85 (by kernel_rfl) rfl #[.int .u8 (bt a0 x4_3), .bool true] rfl (by (try simp only [List.map_toArray, List.map_cons, List.map_nil]); rfl) ?_; (with_reducible refine (impl_digitOf.calls kj9 (bt a0 x4_3) true t326 _ A20.out).mono ?_); rintro e w' ⟨rfl, ⟨nd, rfl⟩⟩; refine ⟨_, rfl, ?_⟩))
                      go_roundg kj9
                      case measure => have := HJ1.out; have := HJ7.out; have := HK3.out; have := HJ9.out; omega
                      case rel => exact ⟨(wrap64 (x4_3 + 1)), (ji21), rfl, rfl, H', ⟨by have := HJ1.out; have := HJ7.out; have := HK3.out; have := HJ9.out; omega⟩, ⟨by repeat ((with_reducible first | exact HB.out | apply pw_below_drewN))⟩⟩
                    · replace c16 := Bool.eq_false_iff.mpr c16
                      subst c16
                      rw [if_neg nft] at H
                      obtain ⟨c22b0, H⟩ := ifn1 H
                      obtain ⟨c23b0, H⟩ := ifn1 H
                      obtain ⟨t327, A25, H⟩ := bnd H
                      obtain ⟨ji26, hji26⟩ : ∃ j_ : Int, (mn (wrap64 ((wrap64 (x7_3 * 10)) + t327)) 1114112) = j_ := ⟨_, rfl⟩
                      rw [hji26] at H
                      have hji26_ : (if 1114112 < (wrap64 ((wrap64 (x7_3 * 10)) + t327)) then 1114112 else (wrap64 ((wrap64 (x7_3 * 10)) + t327))) = ji26 := hji26
                      have H' := am H
                      clear H
                      have p24 : 0 ≤ (x4_3 : Int) := of_decide_eq_true (by with_reducible assumption)
                      have q24 : x4_3 < (a0.size : Int) := of_decide_eq_true (by with_reducible assumption)
                      have hx24 := bt_at a0 x4_3
                      replace p24 := eq_true p24
                      replace q24 := eq_true q24
                      go_wp2_with (((with_reducible refine gate_callee (f := 85) rfl ?_); refine goesL_ (some 43) rfl rfl Tryd.func85 (by kernel_rfl) rfl #[.int .u8 (bt a0 x4_3), .bool false] rfl (by (try simp only [List.map_toArray, List.map_cons, List.map_nil]); rfl) ?_; (with_reducible refine (impl_digitOf.calls kj9 (bt a0 x4_3) false t327 _ A25.out).mono ?_); rintro e w' ⟨rfl, ⟨nd, rfl⟩⟩; refine ⟨_, rfl, ?_⟩))
                      go_roundg kj9
                      case measure => have := HJ1.out; have := HJ7.out; have := HK3.out; have := HJ9.out; omega
                      case rel => exact ⟨(wrap64 (x4_3 + 1)), (ji26), rfl, rfl, H', ⟨by have := HJ1.out; have := HJ7.out; have := HK3.out; have := HJ9.out; omega⟩, ⟨by repeat ((with_reducible first | exact HB.out | apply pw_below_drewN))⟩⟩
                  · replace c15 := Bool.eq_false_iff.mpr c15
                    subst c15
                    rw [if_neg nft] at H
                    by_cases c27 : x4_3 = x4_7
                    · rw [if_pos c27] at H
                      have c27b0 : (x4_3 == x4_7) = true := beq_iff_eq.mpr c27
                      have c27b1 : (x4_3 != x4_7) = false := bne_eq_false_iff_eq.mpr c27
                      clear c27
                      simp only [Option.some.injEq, Prod.mk.injEq] at H
                      obtain ⟨rfl, rfl⟩ := H
                      go_wp2
                      go_ret2
                      exact ⟨by rfl, by exact HB.out⟩
                    · rw [if_neg c27] at H
                      have c27b0 : (x4_3 == x4_7) = false := beq_eq_false_iff_ne.mpr c27
                      have c27b1 : (x4_3 != x4_7) = true := bne_iff_ne.mpr c27
                      have HC28 := am H
                      clear H
                      go_upto_region 15 with (fail)
                      go_cut [60] (fun v60 wc => ∃ (kq : Nat) (x60_27 : Bool), v60 = .bool x60_27 ∧ Aside0 (impl_numbered.j4 kq x4_3 x7_3 x60_27 = some (r1, r2)) ∧ Aside0 (kq ≤ kj9) ∧ Aside0 (Below w.heap.size w wc))
                      case first =>
                        have H := HC28.out
                        clear HC28
                        by_cases c29 : x4_3 < (a0.size : Int)
                        · rw [if_pos c29] at H
                          have c29b0 : decide (x4_3 < (a0.size : Int)) = true := decide_eq_true c29
                          clear c29
                          obtain ⟨c30b0, H⟩ := ifn1 H
                          have H' := am H
                          clear H
                          have p31 : 0 ≤ (x4_3 : Int) := of_decide_eq_true (by with_reducible assumption)
                          have q31 : x4_3 < (a0.size : Int) := of_decide_eq_true (by with_reducible assumption)
                          have hx31 := bt_at a0 x4_3
                          replace p31 := eq_true p31
                          replace q31 := eq_true q31
                          go_wp2
                          go_meet
                          case rel => exact ⟨_, (((bt a0 x4_3) == 59)), rfl, H', ⟨by have := HJ1.out; have := HJ7.out; have := HK3.out; have := HJ9.out; omega⟩, ⟨by exact HB.out⟩⟩
                        · rw [if_neg c29] at H
                          have c29b0 : decide (x4_3 < (a0.size : Int)) = false := decide_eq_false c29
                          clear c29
                          have H' := am H
                          clear H
                          go_wp2
                          go_meet
                          case rel => exact ⟨_, (false), rfl, H', ⟨by have := HJ1.out; have := HJ7.out; have := HK3.out; have := HJ9.out; omega⟩, ⟨by exact HB.out⟩⟩
                      case rest =>
                        clear HC28
                        try clear c27
                        try clear c27b0
                        try clear c27b1
                        obtain ⟨kq, x60_27, rfl, HA, HJ27, HB⟩ := hcut
                        cases kq with
                        | zero => exact absurd HA.out (by simp [impl_numbered.j4])
                        | succ kj27 =>
                          have H := HA.out
                          clear HA
                          simp only [impl_numbered.j4] at H
                          by_cases c32 : x60_27 = true
                          · subst c32
                            rw [if_pos rfl] at H
                            by_cases c33 : x7_3 = 0
                            · rw [if_pos c33] at H
                              have c33b0 : (x7_3 == 0) = true := beq_iff_eq.mpr c33
                              have c33b1 : (x7_3 != 0) = false := bne_eq_false_iff_eq.mpr c33
                              clear c33
                              obtain ⟨y328, hy328⟩ : ∃ y_ : List Int, y_ = (([65533] : List Int)) := ⟨_, rfl⟩
                              replace H : ((impl_Encode.f kj27 y328).bind fun t331 => (some (t331, wrap64 ((wrap64 (x4_3 + 1)) + 2)))) = some (r1, r2) := by (rw [hy328]; with_reducible exact H)
                              have Ny328 := am hy328
                              clear hy328
                              obtain ⟨t331, A34, H⟩ := bnd H
                              simp only [Option.some.injEq, Prod.mk.injEq] at H
                              obtain ⟨rfl, rfl⟩ := H
                              go_wp2_with (first | ((with_reducible refine gate_dst (N := 66) rfl ?_); refine Kd.R_lit (Kd.int .i64) _ 3 ?hg (N := 66) ?hd (xs := ([65533] : List Int)) (inner := [.int .i64 65533]) (ok := fun _ => True) (okp := fun _ => True) ?hr ?hp (fun _ hk => hk) trivial (Below.refl _ _) (Nat.le_refl _) (by simp) ?_; (case hd => rfl); (case hg => rfl); (case hr => (go_simp; done)); (case hp => exact (Reps.one (show Kd.M (Kd.int .i64) _ _ _ 65533 [.int .i64 65533] from rfl) (Reps.none _ _))); intro v329 w35 ho36 hb hg_ hnew_; clear hg_ hnew_; (rw [← Ny328.out] at ho36); have HO330 := am (Kd.R_lower ho36 (below_size HB.out)); replace HB := am (below_step HB.out hb); clear hb ho36; obtain ⟨Ao37, co37, eo37⟩ := Kd.R_slice HO330.out; subst eo37) | ((with_reducible refine gate_callee (f := 79) rfl ?_); refine goesL_ (some 67) rfl rfl Tryd.func79 (by kernel_rfl) rfl #[.slice Ao37 y328.length co37] rfl (by (try simp only [List.map_toArray, List.map_cons, List.map_nil]); rfl) ?_; (with_reducible refine (impl_Encode.calls kj27 _ _ y328 t331 _ ?side1 ?side2 A34.out).mono ?_); (case side1 => repeat (exact (Kd.R_reads' HO330.out).2.2)); (case side2 => exact (Kd.R_reads' HO330.out).2.1); rintro e w38 ⟨rfl, hb⟩; refine ⟨_, rfl, ?_⟩; replace HO330 := am (Kd.R_below HO330.out hb); replace HB := am (below_step HB.out hb); (try clear hb)))
                              go_ret2
                              exact ⟨by rfl, by exact HB.out⟩
                            · rw [if_neg c33] at H
                              have c33b0 : (x7_3 == 0) = false := beq_eq_false_iff_ne.mpr c33
                              have c33b1 : (x7_3 != 0) = true := bne_iff_ne.mpr c33
                              obtain ⟨y332, hy332⟩ : ∃ y_ : List Int, y_ = (([x7_3] : List Int)) := ⟨_, rfl⟩
                              replace H : ((impl_Encode.f kj27 y332).bind fun t335 => (some (t335, wrap64 ((wrap64 (x4_3 + 1)) + 2)))) = some (r1, r2) := by (rw [hy332]; with_reducible exact H)
                              have Ny332 := am hy332
                              clear hy332
                              obtain ⟨t335, A39, H⟩ := bnd H
                              simp only [Option.some.injEq, Prod.mk.injEq] at H
                              obtain ⟨rfl, rfl⟩ := H
                              go_wp2_with (first | ((with_reducible refine gate_dst (N := 66) rfl ?_); refine Kd.R_lit (Kd.int .i64) _ 3 ?hg (N := 66) ?hd (xs := ([x7_3] : List Int)) (inner := [.int .i64 x7_3]) (ok := fun _ => True) (okp := fun _ => True) ?hr ?hp (fun _ hk => hk) trivial (Below.refl _ _) (Nat.le_refl _) (by simp) ?_; (case hd => rfl); (case hg => rfl); (case hr => (go_simp; done)); (case hp => exact (Reps.one (show Kd.M (Kd.int .i64) _ _ _ x7_3 [.int .i64 x7_3] from rfl) (Reps.none _ _))); intro v333 w40 ho41 hb hg_ hnew_; clear hg_ hnew_; (rw [← Ny332.out] at ho41); have HO334 := am (Kd.R_lower ho41 (below_size HB.out)); replace HB := am (below_step HB.out hb); clear hb ho41; obtain ⟨Ao42, co42, eo42⟩ := Kd.R_slice HO334.out; subst eo42) | ((with_reducible refine gate_callee (f := 79) rfl ?_); refine goesL_ (some 67) rfl rfl Tryd.func79 (by kernel_rfl) rfl #[.slice Ao42 y332.length co42] rfl (by (try simp only [List.map_toArray, List.map_cons, List.map_nil]); rfl) ?_; (with_reducible refine (impl_Encode.calls kj27 _ _ y332 t335 _ ?side1 ?side2 A39.out).mono ?_); (case side1 => repeat (exact (Kd.R_reads' HO334.out).2.2)); (case side2 => exact (Kd.R_reads' HO334.out).2.1); rintro e w43 ⟨rfl, hb⟩; refine ⟨_, rfl, ?_⟩; replace HO334 := am (Kd.R_below HO334.out hb); replace HB := am (below_step HB.out hb); (try clear hb)))
                              go_ret2
                              exact ⟨by rfl, by exact HB.out⟩
                          · replace c32 := Bool.eq_false_iff.mpr c32
                            subst c32
                            rw [if_neg nft] at H
                            by_cases c44 : x7_3 = 0
                            · rw [if_pos c44] at H
                              have c44b0 : (x7_3 == 0) = true := beq_iff_eq.mpr c44
                              have c44b1 : (x7_3 != 0) = false := bne_eq_false_iff_eq.mpr c44
                              clear c44
                              obtain ⟨y336, hy336⟩ : ∃ y_ : List Int, y_ = (([65533] : List Int)) := ⟨_, rfl⟩
                              replace H : ((impl_Encode.f kj27 y336).bind fun t339 => (some (t339, wrap64 (x4_3 + 2)))) = some (r1, r2) := by (rw [hy336]; with_reducible exact H)
                              have Ny336 := am hy336
                              clear hy336
                              obtain ⟨t339, A45, H⟩ := bnd H
                              simp only [Option.some.injEq, Prod.mk.injEq] at H
                              obtain ⟨rfl, rfl⟩ := H
                              go_wp2_with (first | ((with_reducible refine gate_dst (N := 66) rfl ?_); refine Kd.R_lit (Kd.int .i64) _ 3 ?hg (N := 66) ?hd (xs := ([65533] : List Int)) (inner := [.int .i64 65533]) (ok := fun _ => True) (okp := fun _ => True) ?hr ?hp (fun _ hk => hk) trivial (Below.refl _ _) (Nat.le_refl _) (by simp) ?_; (case hd => rfl); (case hg => rfl); (case hr => (go_simp; done)); (case hp => exact (Reps.one (show Kd.M (Kd.int .i64) _ _ _ 65533 [.int .i64 65533] from rfl) (Reps.none _ _))); intro v337 w46 ho47 hb hg_ hnew_; clear hg_ hnew_; (rw [← Ny336.out] at ho47); have HO338 := am (Kd.R_lower ho47 (below_size HB.out)); replace HB := am (below_step HB.out hb); clear hb ho47; obtain ⟨Ao48, co48, eo48⟩ := Kd.R_slice HO338.out; subst eo48) | ((with_reducible refine gate_callee (f := 79) rfl ?_); refine goesL_ (some 67) rfl rfl Tryd.func79 (by kernel_rfl) rfl #[.slice Ao48 y336.length co48] rfl (by (try simp only [List.map_toArray, List.map_cons, List.map_nil]); rfl) ?_; (with_reducible refine (impl_Encode.calls kj27 _ _ y336 t339 _ ?side1 ?side2 A45.out).mono ?_); (case side1 => repeat (exact (Kd.R_reads' HO338.out).2.2)); (case side2 => exact (Kd.R_reads' HO338.out).2.1); rintro e w49 ⟨rfl, hb⟩; refine ⟨_, rfl, ?_⟩; replace HO338 := am (Kd.R_below HO338.out hb); replace HB := am (below_step HB.out hb); (try clear hb)))
                              go_ret2
                              exact ⟨by rfl, by exact HB.out⟩
                            · rw [if_neg c44] at H
                              have c44b0 : (x7_3 == 0) = false := beq_eq_false_iff_ne.mpr c44
                              have c44b1 : (x7_3 != 0) = true := bne_iff_ne.mpr c44
                              obtain ⟨y340, hy340⟩ : ∃ y_ : List Int, y_ = (([x7_3] : List Int)) := ⟨_, rfl⟩
                              replace H : ((impl_Encode.f kj27 y340).bind fun t343 => (some (t343, wrap64 (x4_3 + 2)))) = some (r1, r2) := by (rw [hy340]; with_reducible exact H)
                              have Ny340 := am hy340
                              clear hy340
                              obtain ⟨t343, A50, H⟩ := bnd H
                              simp only [Option.some.injEq, Prod.mk.injEq] at H
                              obtain ⟨rfl, rfl⟩ := H
                              go_wp2_with (first | ((with_reducible refine gate_dst (N := 66) rfl ?_); refine Kd.R_lit (Kd.int .i64) _ 3 ?hg (N := 66) ?hd (xs := ([x7_3] : List Int)) (inner := [.int .i64 x7_3]) (ok := fun _ => True) (okp := fun _ => True) ?hr ?hp (fun _ hk => hk) trivial (Below.refl _ _) (Nat.le_refl _) (by simp) ?_; (case hd => rfl); (case hg => rfl); (case hr => (go_simp; done)); (case hp => exact (Reps.one (show Kd.M (Kd.int .i64) _ _ _ x7_3 [.int .i64 x7_3] from rfl) (Reps.none _ _))); intro v341 w51 ho52 hb hg_ hnew_; clear hg_ hnew_; (rw [← Ny340.out] at ho52); have HO342 := am (Kd.R_lower ho52 (below_size HB.out)); replace HB := am (below_step HB.out hb); clear hb ho52; obtain ⟨Ao53, co53, eo53⟩ := Kd.R_slice HO342.out; subst eo53) | ((with_reducible refine gate_callee (f := 79) rfl ?_); refine goesL_ (some 67) rfl rfl Tryd.func79 (by kernel_rfl) rfl #[.slice Ao53 y340.length co53] rfl (by (try simp only [List.map_toArray, List.map_cons, List.map_nil]); rfl) ?_; (with_reducible refine (impl_Encode.calls kj27 _ _ y340 t343 _ ?side1 ?side2 A50.out).mono ?_); (case side1 => repeat (exact (Kd.R_reads' HO342.out).2.2)); (case side2 => exact (Kd.R_reads' HO342.out).2.1); rintro e w54 ⟨rfl, hb⟩; refine ⟨_, rfl, ?_⟩; replace HO342 := am (Kd.R_below HO342.out hb); replace HB := am (below_step HB.out hb); (try clear hb)))
                              go_ret2
                              exact ⟨by rfl, by exact HB.out⟩
end Go.Proofs.YtnjnoabldjodcaaDoor.PFnExactTokens
