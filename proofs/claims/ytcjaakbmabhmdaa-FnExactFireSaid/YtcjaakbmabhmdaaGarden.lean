/- grown and newGarden. -/
import Derived.Test.YtcjaakbmabhmdaaGrow
namespace Go.Proofs.Ytcjaakbmabhmdaa.Impl
open Go.RowKit Go.Proofs.YtcjaakbmabhmdaaW.PrintWords Go.Proofs.YtcjaakbmabhmdaaW.PrintLast Go.Proofs.YtcjaakbmabhmdaaW.PrintMore Go.Proofs.Ytcjaakbmabhmdaa.PFnExactFire Go.Proofs.Ytcjaakbmabhmdaa.MapLib Go.Proofs.Ytcjaakbmabhmdaa.FireSpec Go.Proofs.Ytcjaakbmabhmdaa.Tr
set_option linter.unusedVariables false
set_option linter.unusedSimpArgs false

/-- The whole tree as twigs, in order. -/
structure Grown (ns : List S52) (w0 w : World) (base : Nat) (bs : List Nat) (lv : Value) (KV : Nat → Value) : Prop where
  len : bs.length = ns.length
  row : PtrRow w base lv bs
  laid : Laid ns w0 w base bs KV 0 0 ns.length
  root : Twig w0 w (bs.getD 0 0) (ns.getD 0 z52) (KV 0) (.pointer none) 0
  fresh : ∀ j, j < ns.length → base ≤ bs.getD j 0 ∧ ∀ k, (KV j).ownBlock = some k → base ≤ k ∧ lv.ownBlock ≠ some k
  order : ∀ j j', j < j' → j' < ns.length → bs.getD j 0 < bs.getD j' 0

theorem Grown.below {ns : List S52} {w0 w w1 : World} {base : Nat} {bs : List Nat} {lv : Value} {KV : Nat → Value} (h : Grown ns w0 w base bs lv KV) (hb : Below w.heap.size w w1) : Grown ns w0 w1 base bs lv KV :=
  ⟨h.len, Kd.R_below h.row hb, h.laid.below hb, h.root.keep (hb.block _ h.root.lt), h.fresh, h.order⟩

abbrev grownW (w : World) (tv : Value) : World := (((w.alloc (Obj.cells #[tv] 32)).alloc (Obj.cells #[] 56)).alloc (Obj.cells #[Value.slice (some ⟨w.heap.size + 1, 0, none⟩) 0 0] 65)).alloc (Obj.cells #[Value.int .i64 0] 3)
section
variable {w0 w : World} (tv : Value)
theorem grown_below2 : Below w.heap.size w (grownW w tv) := ((((Below.refl _ w).alloc (Nat.le_refl _) _).alloc (by simp) _).alloc (by simp; omega) _).alloc (by simp; omega) _
theorem grown_below (h : Below w0.heap.size w0 w) : Below w0.heap.size w0 (grownW w tv) := below_step h (grown_below2 tv)
theorem grown_at : (grownW w tv).heap[w.heap.size + 1 + 1 + 1]? = some (.cells #[.int .i64 (0 : Nat)] 3 (0, 0)) := by
  have h := blk_newest (((w.alloc (Obj.cells #[tv] 32)).alloc (Obj.cells #[] 56)).alloc (Obj.cells #[Value.slice (some ⟨w.heap.size + 1, 0, none⟩) 0 0] 65)) (Obj.cells #[Value.int .i64 0] 3)
  simpa using h
theorem grown_list : (grownW w tv).heap[w.heap.size + 1 + 1]? = some (.cells #[Value.slice (some ⟨w.heap.size + 1, 0, none⟩) 0 0] 65 (0, 0)) := by
  have h := blk_newest ((w.alloc (Obj.cells #[tv] 32)).alloc (Obj.cells #[] 56)) (Obj.cells #[Value.slice (some ⟨w.heap.size + 1, 0, none⟩) 0 0] 65)
  exact blk_below (by simpa using h) ((Below.refl _ _).alloc (Nat.le_refl _) _)
theorem grown_row : PtrRow (grownW w tv) w.heap.size (.slice (some ⟨w.heap.size + 1, 0, none⟩) 0 0) [] := by
  have h := own_lit_of (enc := ptr) (w.alloc (Obj.cells #[tv] 32)) w.heap.size 56 [] (by simp) (by simp)
  have h2 : PtrRow ((w.alloc (Obj.cells #[tv] 32)).alloc (Obj.cells #[] 56)) w.heap.size (.slice (some ⟨w.heap.size + 1, 0, none⟩) 0 0) [] :=
    Kd.R_of_own (enc := ptr) (h1 := fun _ => rfl) (by simpa [encs] using h) (fun _ _ => trivial)
  exact Kd.R_below h2 (((Below.refl _ _).alloc (Nat.le_refl _) _).alloc (by simp) _)
end
set_option maxHeartbeats 4000000 in
set_option maxRecDepth 100000 in
theorem grown_calls (ns : List S52) (ad : Addr) (c : Nat) (w : World) (hin : Kd.C k52 w (some ad) ns.length ns) (hc : ns.length ≤ c) (hk : ∀ n ∈ ns, 0 ≤ n.f5) (hn : ns.length ≤ 4000) (he : E (kids ns) 0 1 = some ns.length) :
    Calls Try.prog 41 #[.agg #[.slice (some ad) ns.length c]] w fun en w' => ∃ bs lv KV, en = .returned (.tuple #[.pointer (some ⟨bs.getD 0 0, 0, none⟩), lv]) ∧ Below w.heap.size w w' ∧ Grown ns w w' w.heap.size bs lv KV := by
  have hut := Try.underlying32
  have HIN := Aside0.mk hin
  have HALL := Aside0.mk (And.intro hc (And.intro hk (And.intro hn he)))
  clear hin hc hk hn he
  go_enter Try.func41, Try.ntmps41
  go_wp2_with (first | (go_at_call 49; refine (growAt_calls ns ad c w HIN.out HALL.out.1 HALL.out.2.1 HALL.out.2.2.1 w.heap.size (w.heap.size + 1 + 1 + 1) (w.heap.size + 1 + 1) (by omega) (by omega) (by omega) ns.length 0 ns.length (by omega) HALL.out.2.2.2 none [] (.slice (some ⟨w.heap.size + 1, 0, none⟩) 0 0) _ rfl (grown_below2 _) (by simp; omega) (grown_at _) (grown_list _) (grown_row _)).mono ?_; rintro en w6 ⟨new2, lv2, KV2, kb, hkb, rfl, G⟩; have HG := Aside0.mk G; have hli := blk_cell G.list 0; have HKB := Aside0.mk hkb; clear G hkb))
  have e0 : (0 : Nat) < ns.length := by have := (E_bounds HALL.out.2.2.2).2 (by omega); omega
  have hg := HG.out
  have hkb := HKB.out
  simp only [List.nil_append] at hg hkb
  have hfin := Aside0.mk (show Below w.heap.size w w6 ∧ Grown ns w w6 w.heap.size new2 lv2 KV2 from ⟨hg.below, by have := hg.len; simpa using this, hg.row, hg.laid, hg.root, fun j h1 => by
    have := hg.fresh j (Nat.zero_le _) h1
    have hs : w.heap.size ≤ (grownW w (.slice (some ad) ns.length c)).heap.size := (grown_below2 _).size
    exact ⟨Nat.le_trans hs this.1, fun k hk => ⟨Nat.le_trans hs (this.2 k hk).1, (this.2 k hk).2⟩⟩, fun j j' h1 h2 => hg.order j j' (Nat.zero_le _) h1 h2⟩)
  subst hkb
  clear hg HG HKB e0
  go_region
  go_wp2
  go_ret2
  have hdr : Below w6.heap.size w6 w6.drew := (Below.refl _ _).drew
  exact ⟨new2, lv2, KV2, rfl, below_step hfin.out.1 hdr, hfin.out.2.below hdr⟩

/-- The garden's map behind i rounds. -/
def gents (ns : List S52) (bs : List Nat) (i : Nat) : List (Int × Value) := ((ns.map (·.f0)).zip (bs.map ptr)).take i
theorem gents_next {ns : List S52} {bs : List Nat} (hl : bs.length = ns.length) {i : Nat} (hi : i < ns.length) : gents ns bs (i + 1) = gents ns bs i ++ [((ns.getD i z52).f0, ptr (bs.getD i 0))] := by
  unfold gents
  rw [List.take_succ_eq_append_getElem (by simp [hl]; omega)]
  congr 1
  simp [List.getD_eq_getElem?_getD, hi, hl]
theorem take_zip' {α β : Type} : ∀ (i : Nat) (l : List α) (m : List β), (l.zip m).take i = (l.take i).zip (m.take i)
  | 0, _, _ => by simp
  | _ + 1, [], _ => by simp
  | _ + 1, _ :: _, [] => by simp
  | i + 1, a :: l, b :: m => by simp [take_zip' i l m]
theorem mlook_zip_none {l : List Int} {vs : List Value} {k : Int} (h : k ∉ l) : mlook (l.zip vs) k = none := by
  unfold mlook
  rw [List.find?_eq_none.2]
  · rfl
  · intro x hx
    have := (List.of_mem_zip hx).1
    simp only [decide_eq_true_eq]
    intro e
    rw [e] at h
    exact h this
theorem gents_none {ns : List S52} {bs : List Nat} (hd : (ns.map (·.f0)).Nodup) {i : Nat} (hi : i < ns.length) : mlook (gents ns bs i) (ns.getD i z52).f0 = none := by
  unfold gents
  rw [take_zip']
  refine mlook_zip_none ?_
  intro hm
  rw [List.mem_take_iff_getElem] at hm
  obtain ⟨j, hj, e⟩ := hm
  simp only [List.length_map] at hj
  have e2 : (ns.map (·.f0))[i]'(by simpa using hi) = (ns.getD i z52).f0 := by simp [List.getD_eq_getElem?_getD, hi]
  rw [← e2] at e
  have := (List.getElem_inj hd).1 e
  omega
theorem gents_at {ns : List S52} {bs : List Nat} (hl : bs.length = ns.length) (hd : (ns.map (·.f0)).Nodup) {i : Nat} (hi : i < ns.length) : mlook (gents ns bs ns.length) (ns.getD i z52).f0 = some (ptr (bs.getD i 0)) := by
  have : ∀ m, i < m → m ≤ ns.length → mlook (gents ns bs m) (ns.getD i z52).f0 = some (ptr (bs.getD i 0)) := by
    intro m
    induction m with
    | zero => omega
    | succ m ih =>
      intro h1 h2
      rw [gents_next hl (by omega), mlook_append]
      rcases Nat.lt_or_ge i m with h3 | h3
      · rw [ih h3 (by omega)]; rfl
      · have : i = m := by omega
        subst this
        rw [gents_none hd hi]
        simp
  exact this _ hi (Nat.le_refl _)
theorem gents_no {ns : List S52} {bs : List Nat} {k : Int} (h : k ∉ ns.map (·.f0)) (i : Nat) : mlook (gents ns bs i) k = none := by
  unfold gents
  rw [take_zip']
  exact mlook_zip_none (fun hm => h (List.mem_of_mem_take hm))

/-- A garden: its root, its map. -/
structure Garden (ns : List S52) (w0 w : World) (g base : Nat) (bs : List Nat) (KV : Nat → Value) : Prop where
  blk : ∃ mb, w.heap[g]? = some (.cells #[ptr (bs.getD 0 0), .map (some mb)] 59 (0, 0)) ∧ base ≤ mb ∧ MapIs (fun n : Int => Value.int .i64 n) w mb (gents ns bs ns.length)
  at_ : base ≤ g
  grown : ∃ lv, Grown ns w0 w base bs lv KV

set_option maxHeartbeats 4000000 in
set_option maxRecDepth 100000 in
theorem newGarden_calls (ns : List S52) (ad : Addr) (c : Nat) (w : World) (hin : Kd.C k52 w (some ad) ns.length ns) (hc : ns.length ≤ c) (hk : ∀ n ∈ ns, 0 ≤ n.f5) (hn : ns.length ≤ 4000) (he : E (kids ns) 0 1 = some ns.length) (hd : (ns.map (·.f0)).Nodup) :
    Calls Try.prog 26 #[.agg #[.slice (some ad) ns.length c]] w fun en w' => ∃ g bs KV w0, en = .returned (.pointer (some ⟨g, 0, none⟩)) ∧ Below w.heap.size w w' ∧ Below w.heap.size w w0 ∧ Garden ns w0 w' g w0.heap.size bs KV := by
  have hut := Try.underlying32
  have hmm := fun t w => run_makeMap (P := Try.prog) t w
  have HIN := Aside0.mk hin
  have HALL := Aside0.mk (And.intro hc (And.intro hk (And.intro hn (And.intro he hd))))
  clear hin hc hk hn he hd
  go_enter Try.func26, Try.ntmps26
  go_wp2_with (first | (go_at_call 41; refine (grown_calls ns ad c _ (Kd.C_below HIN.out ((Below.refl _ w).alloc (Nat.le_refl _) _)) HALL.out.1 HALL.out.2.1 HALL.out.2.2.1 HALL.out.2.2.2.1).mono ?_; rintro en w6 ⟨bs, lv, KV, rfl, hb6, hg6⟩; obtain ⟨A6, c6, e6⟩ := Kd.R_slice hg6.row; subst e6; have HB6 := Aside0.mk hb6; have HG6 := Aside0.mk hg6; clear hb6 hg6))
  generalize hb0 : bs[0]?.getD 0 = b0
  have HB0 := Aside0.mk (show bs.getD 0 0 = b0 by rw [List.getD_eq_getElem?_getD]; exact hb0)
  clear hb0
  generalize hw7 : World.alloc _ _ = w7
  have hw7' : Below w6.heap.size w6 w7 ∧ w7.heap[w6.heap.size + 1]? = some (.cells #[ptr b0, .map (some w6.heap.size)] 59 (0, 0)) ∧ MapIs (fun n : Int => Value.int .i64 n) w7 w6.heap.size (gents ns bs 0) := by
    subst hw7
    have hb := ((Below.refl _ (w6.alloc (Obj.map #[] 0))).alloc (Nat.le_refl _) (Obj.cells #[ptr b0, .map (some w6.heap.size)] 59))
    exact ⟨((Below.refl _ w6).alloc (Nat.le_refl _) _).alloc (by simp) _, by simpa [ptr] using blk_newest (w6.alloc (Obj.map #[] 0)) (Obj.cells #[ptr b0, .map (some w6.heap.size)] 59), (MapIs.made w6).below hb⟩
  have HW7 := Aside0.mk hw7'
  have hbl := HG6.out.len
  have hns := HALL.out.2.2.1
  have hbl2 : bs.length ≤ 4000 := by omega
  clear hw7 hw7' hbl hns
  go_loopg [7, 19] (ns.length + 1) (fun kq v7 v19 w' => ∃ i : Nat, v19 = .int .i64 i ∧ Aside0 (i + kq = ns.length + 1 ∧ i ≤ ns.length) ∧ Aside0 (Below w6.heap.size w6 w') ∧ Aside0 (w'.heap[w6.heap.size + 1]? = some (.cells #[ptr b0, .map (some w6.heap.size)] 59 (0, 0))) ∧ Aside0 (MapIs (fun n : Int => Value.int .i64 n) w' w6.heap.size (gents ns bs i)))
  case atStart => exact ⟨0, rfl, ⟨by omega, by omega⟩, ⟨HW7.out.1⟩, ⟨HW7.out.2.1⟩, ⟨HW7.out.2.2⟩⟩
  case round =>
    obtain ⟨i, rfl, HI, HB, HC, HM⟩ := hrel
    have hG := HG6.out.below HB.out
    by_cases hlt : (i : Int) < bs.length
    · have hd : decide ((i : Int) < (bs.length : Int)) = true := decide_eq_true hlt
      have hd2 : decide (i < bs.length) = true := decide_eq_true (by omega)
      have hin : i < ns.length := by have := HG6.out.len; omega
      have hrow := Kd.own_of_R hG.row
      obtain ⟨g7, c7, e7, _, _⟩ := hrow.form (by omega)
      have hcs := own_at_of (d := 0) (e7 ▸ hrow) (i : Int) (by omega) hlt
      injection e7 with e7 _ ec
      subst e7
      subst ec
      have hce : wr.cell? ⟨g7, i, none⟩ = some (ptr (bs.getD i 0)) := hcs.1
      have hcs2 := hcs.2
      rw [Int.toNat_natCast] at hcs2
      obtain ⟨up, pl, htw, _⟩ := hG.laid.twig i (Nat.zero_le _) hin
      obtain ⟨At, ct, ht1, ht2, ht3⟩ := htw
      generalize hbi : bs.getD i 0 = bi at hce ht3
      have hc0 : wr.cell? ⟨bi, 0, none⟩ = some (.int .i64 (ns.getD i z52).f0) := blk_cell ht3 0
      have hcg : wr.cell? ⟨w6.heap.size + 1, 1, none⟩ = some (.map (some w6.heap.size)) := blk_cell HC.out 1
      have HIN2 := Aside0.mk hin
      have HBI := Aside0.mk hbi
      clear hin hbi hrow hcs ht1 ht2 ht3 hG
      unfold ptr at hce
      go_upto_region 6 with (fail)
      go_still_tail 10, (by kernel_rfl)
      change wpList _ _ _ _ _ wr.drew
      have hdr : Below wr.heap.size wr wr.drew := (Below.refl _ _).drew
      at_mapUpdate
      refine wp_store_new _ rfl _ _ _ _ _ _ rfl keyI Try.underlying57 w6.heap.size _ rfl (HM.out.below hdr) (ns.getD i z52).f0 (by simp [List.getD_eq_getElem?_getD]; rfl) (ptr bi) rfl (gents_none HALL.out.2.2.2.2 HIN2.out) ?_
      intro w9 hm9 hg9
      have hi4 : (i : Int) ≤ 4000 := by omega
      have hcn : some (w6.heap.size + 1) ≠ some w6.heap.size := fun e => by injection e with e; omega
      have HM9 := Aside0.mk (show MapIs (fun n : Int => Value.int .i64 n) w9 w6.heap.size (gents ns bs (i + 1)) by rw [gents_next HG6.out.len HIN2.out, HBI.out]; exact hm9)
      have HB9 := Aside0.mk (show Below w6.heap.size w6 w9 from (below_step HB.out hdr).grown hg9 (below_step HB.out hdr).size (fun k hk => by injection hk with hk; omega))
      have HC9 := Aside0.mk (blk_grown (blk_below HC.out hdr) hg9 hcn)
      have HI9 := Aside0.mk (show (i + 1 + (gk - 1) = ns.length + 1 ∧ i + 1 ≤ ns.length) ∧ 0 < gk by have := HI.out; have := HIN2.out; omega)
      clear hdr hm9 hg9 hce hcs2 hc0 hcg hcn hlt
      go_wp2
      have hii : (i : Int) + 1 = ((i + 1 : Nat) : Int) := by omega
      go_roundg (gk - 1)
      case measure => have := HI9.out; omega
      case rel => exact ⟨i + 1, by rw [hii], ⟨HI9.out.1⟩, HB9, HC9, HM9⟩
    · have hd : decide ((i : Int) < (bs.length : Int)) = false := decide_eq_false hlt
      have hd2 : decide (i < bs.length) = false := decide_eq_false (by omega)
      have hin : i = ns.length := by have := HG6.out.len; have := HI.out; omega
      go_wp2
      go_ret
      have hb1 : Below w.heap.size w (w.alloc (Obj.cells #[Value.slice (some ad) ns.length c] 32)) := (Below.refl _ _).alloc (Nat.le_refl _) _
      refine ⟨_, rfl, below_step (below_step hb1 HB6.out) HB.out, bs, KV, _, hb1, ⟨_, HB0.out ▸ HC.out, HB6.out.size, hin ▸ HM.out⟩, ?_, _, hG⟩
      have := HB6.out.size
      omega
end Go.Proofs.Ytcjaakbmabhmdaa.Impl
