/- The program's own test of a tree: each name of an attribute once, a node by itself, the whole. -/
import Derived.Test.YtcjaakbmabhmdaaX0
import Derived.Test.YtcjaakbmabhmdaaFireSpec
import Derived.Test.YtcjaakbmabhmdaaMapLib
namespace Go.Proofs.Ytcjaakbmabhmdaa.Impl
open Go.RowKit Go.Proofs.YtcjaakbmabhmdaaW.PrintWords Go.Proofs.YtcjaakbmabhmdaaW.PrintLast Go.Proofs.YtcjaakbmabhmdaaW.PrintMore Go.Proofs.Ytcjaakbmabhmdaa.PFnExactFire Go.Proofs.Ytcjaakbmabhmdaa.MapLib Go.Proofs.Ytcjaakbmabhmdaa.FireSpec
set_option linter.unusedVariables false
set_option linter.unusedSimpArgs false

theorem keyS : KeyEnc Try.prog 9 (fun s : ByteArray => Value.string s) := key_string Try.underlying9
theorem zeroB (w : World) : (zeroValue 4).run Try.prog w = .ok (.bool false) w := by kernel_rfl

/-- The names so far, as the map holds them. -/
def seenOf (l : List Attr) : List (ByteArray × Value) := l.map (fun a => (a.f0, .bool true))
theorem look_seen (l : List Attr) (k : ByteArray) : mlook (seenOf l) k = if (∃ a ∈ l, a.f0 = k) then some (.bool true) else none := by
  induction l with
  | nil => simp [seenOf, mlook]
  | cons a l ih =>
    unfold mlook seenOf at ih ⊢
    by_cases e : k = a.f0
    · simp [e]
    · simp only [List.map_cons, List.find?_cons, e, decide_false]
      rw [ih]
      congr 1
      simp only [List.mem_cons, exists_eq_or_imp, eq_iff_iff, iff_or_self]
      intro h
      exact absurd h.symm e

set_option maxHeartbeats 1000000 in
theorem attrsRight_calls (A : Option Addr) (c : Nat) (l : List Attr) (w : World) (hr : Kd.C k92 w A l.length l) (hc : l.length ≤ c) :
    Calls Try.prog 48 #[.slice A l.length c] w fun e w' => e = .returned (.bool (attrsOk l)) ∧ Below w.heap.size w w' := by
  have hln : l.length ≤ 9223372036854775807 := hr.2.1
  have HL := Aside0.mk hln
  have HR := Aside0.mk hr
  have HC := Aside0.mk hc
  clear hr hc hln
  have hmm := fun t w => run_makeMap (P := Try.prog) t w
  go_enter Try.func48, Try.ntmps48
  go_wp2
  go_loopg [9] (l.length + 1) (fun kq v9 w' => ∃ x : Int, v9 = .int .i64 x ∧ Aside0 (∃ i : Nat, x = i ∧ i + kq = l.length + 1 ∧ i ≤ l.length ∧ (∀ a ∈ l.take i, a.f0 ≠ ⟨#[]⟩) ∧ ((l.take i).map (·.f0)).Nodup) ∧ Aside0 (MapIs (fun s : ByteArray => Value.string s) w' w.heap.size (seenOf (l.take x.toNat))) ∧ Aside0 (Below w.heap.size w w'))
  case atStart => exact ⟨0, rfl, ⟨0, rfl, by omega, by omega, by simp, by simp⟩, ⟨MapIs.made w⟩, ⟨(Below.refl _ w).alloc (Nat.le_refl _) _⟩⟩
  case round =>
    obtain ⟨x, rfl, HX, HM, HB⟩ := hrel
    obtain ⟨i, hx, hk, hi, h1, h2⟩ := HX.out
    have p : 0 ≤ x := by omega
    by_cases hlt : x < (l.length : Int)
    · obtain ⟨ad, e, hx0, hx1⟩ := at_T92 HR.out x p hlt
      cases e
      replace hx0 := (HB.out.cell (World.block_lt_of_cell? w _ hx0)).trans hx0
      replace hx1 := (HB.out.cell (World.block_lt_of_cell? w _ hx1)).trans hx1
      clear hx hk hi h1 h2 i
      have hlt1 : decide (x < (l.length : Int)) = true := decide_eq_true hlt
      have hmaxx : x < 9223372036854775807 := by have := HL.out; omega
      replace p := eq_true p
      have q := eq_true hlt
      by_cases c1 : (rd_T92 l x).f0.toList = []
      · have c1b : (rd_T92 l x).f0.toList.isEmpty = true := by rw [c1]; rfl
        clear c1
        go_wp2
        go_ret
        refine ⟨?_, HB.out.alloc HB.out.size _⟩
        obtain ⟨i, hx, hk, hi, h1, h2⟩ := HX.out
        subst hx
        have hrd : rd_T92 l (i : Int) = l[i]'(by omega) := by simp [rd_T92, show i < l.length by omega]
        rw [hrd, List.isEmpty_iff] at c1b
        have hf : attrsOk l = false := attrsOk_false (i := i) (by omega) (.inl (bytes_nil.1 c1b))
        rw [hf]
        rfl
      · have c1b : (rd_T92 l x).f0.toList.isEmpty = false := by rw [← Bool.not_eq_true, List.isEmpty_iff]; exact c1
        clear c1
        by_cases c2 : ∃ a ∈ l.take x.toNat, a.f0 = (rd_T92 l x).f0
        · have HS := Aside0.mk (show mlook (seenOf (l.take x.toNat)) (rd_T92 l x).f0 = some (.bool true) by rw [look_seen, if_pos c2])
          have HC2 := Aside0.mk c2
          clear c2
          go_wp2_with (first | (at_lookup; refine gate_guard (by simp [Region.wanted, yielded, go_sem]) ?_; refine wp_lookup _ rfl _ _ _ _ _ rfl keyS Try.underlying103 (.bool false) (zeroB _) w.heap.size _ rfl (HM.out.below ((Below.refl _ _).alloc (Nat.le_refl _) _)) (rd_T92 l x).f0 rfl ?_; rw [HS.out]))
          go_ret
          refine ⟨?_, HB.out.alloc HB.out.size _⟩
          obtain ⟨i, hx, hk, hi, h1, h2⟩ := HX.out
          have HC2 := HC2.out
          subst hx
          have hrd : rd_T92 l (i : Int) = l[i]'(by omega) := by simp [rd_T92, show i < l.length by omega]
          rw [hrd, Int.toNat_natCast] at HC2
          have hf : attrsOk l = false := attrsOk_false (i := i) (by omega) (.inr HC2)
          rw [hf]
          rfl
        · have HS := Aside0.mk (show mlook (seenOf (l.take x.toNat)) (rd_T92 l x).f0 = none by rw [look_seen, if_neg c2])
          have HC2 := Aside0.mk c2
          clear c2
          go_wp2_with (first | (at_lookup; refine gate_guard (by simp [Region.wanted, yielded, go_sem]) ?_; refine wp_lookup _ rfl _ _ _ _ _ rfl keyS Try.underlying103 (.bool false) (zeroB _) w.heap.size _ rfl (HM.out.below ((Below.refl _ _).alloc (Nat.le_refl _) _)) (rd_T92 l x).f0 rfl ?_; rw [HS.out]) | (at_mapUpdate; refine wp_store_new _ rfl _ _ _ _ _ _ rfl keyS Try.underlying103 w.heap.size _ rfl (HM.out.below ((Below.refl _ _).alloc (Nat.le_refl _) _)) (rd_T92 l x).f0 rfl (.bool true) rfl HS.out ?_; intro w9 hm9 hg9))
          have HM9 := Aside0.mk hm9
          have HB9 := Aside0.mk ((HB.out.alloc HB.out.size (Obj.cells #[Value.string (rd_T92 l x).f0, Value.string (rd_T92 l x).f1] 92)).grown hg9 (by have := HB.out.size; simp; omega) (fun k e => by injection e with e; omega))
          clear hm9 hg9
          go_wp2
          go_roundg (gk - 1)
          case measure => obtain ⟨i, hx, hk, hi, h1, h2⟩ := HX.out; omega
          case rel =>
            obtain ⟨i, hx, hk, hi, h1, h2⟩ := HX.out
            have HC2 := HC2.out
            have HM9 := HM9.out
            subst hx
            have hi' : i < l.length := by omega
            have hrd : rd_T92 l (i : Int) = l[i] := by simp [rd_T92, hi']
            rw [hrd] at c1b HC2 HM9
            rw [Int.toNat_natCast] at HC2 HM9
            have hne : l[i].f0 ≠ ⟨#[]⟩ := fun h => by rw [bytes_nil.2 h] at c1b; cases c1b
            refine ⟨(i : Int) + 1, by rw [w64 (by omega) (by omega)], ⟨i + 1, by omega, by omega, by omega, ?_, ?_⟩, ⟨?_⟩, HB9⟩
            · intro a ha
              rw [List.take_succ_eq_append_getElem hi', List.mem_append] at ha
              rcases ha with ha | ha
              · exact h1 a ha
              · rw [List.mem_singleton.1 ha]; exact hne
            · rw [List.take_succ_eq_append_getElem hi', List.map_append, List.nodup_append]
              refine ⟨h2, by simp, ?_⟩
              intro y hy z hz
              obtain ⟨a, ha, rfl⟩ := List.mem_map.1 hy
              rw [show z = l[i].f0 from by simpa using hz]
              exact fun he => HC2 ⟨a, ha, he⟩
            · rw [show ((i : Int) + 1).toNat = i + 1 from by omega, List.take_succ_eq_append_getElem hi']
              rw [show seenOf (l.take i ++ [l[i]]) = seenOf (l.take i) ++ [(l[i].f0, .bool true)] from by unfold seenOf; rw [List.map_append]; rfl]
              exact HM9
    · obtain ⟨i, hx, hk, hi, h1, h2⟩ := HX.out
      have hf := Aside0.mk (show attrsOk l = true from attrsOk_all (by rw [List.take_of_length_le (by omega)] at h1; exact h1) (by rw [List.take_of_length_le (by omega)] at h2; exact h2))
      have hlt1 : decide (x < (l.length : Int)) = false := decide_eq_false hlt
      clear hx hk hi h1 h2 i HX
      go_wp2
      go_ret
      rw [hf.out]
      exact ⟨rfl, HB.out⟩

/-- What the program asks of a node by itself. -/
def nodeRightB (n : S52) (isFirst : Bool) : Bool := nodeOk n isFirst && decide (0 ≤ n.f5)
theorem isEmpty_iff0 {a : ByteArray} : a.toList.isEmpty = true ↔ a = ⟨#[]⟩ := by rw [List.isEmpty_iff, bytes_nil]
theorem isEmpty_iff1 {a : ByteArray} : a.toList.isEmpty = false ↔ a ≠ ⟨#[]⟩ := by rw [← Bool.not_eq_true, isEmpty_iff0]
set_option maxHeartbeats 8000000 in
set_option maxRecDepth 100000 in
theorem nodeRight_calls (n : S52) (A : Option Addr) (c : Nat) (isFirst : Bool) (w : World) (hr : Kd.C k92 w A n.f3.length n.f3) (hc : n.f3.length ≤ c) :
    Calls Try.prog 40 #[.agg #[.int .i64 n.f0, .int .i64 n.f1, .string n.f2, .slice A n.f3.length c, .string n.f4, .int .i64 n.f5], .bool isFirst] w fun e w' => e = .returned (.bool (nodeRightB n isFirst)) ∧ Below w.heap.size w w' := by
  have HR := Aside0.mk hr
  have HC := Aside0.mk hc
  clear hr hc
  have hu := Try.underlying52
  obtain ⟨f0, f1, f2, f3, f4, f5⟩ := n
  dsimp only at *
  rcases Bool.eq_false_or_eq_true (decide (f0 < 0)) with a1 | a1
  · skip
    have hres := Aside0.mk (show nodeRightB ⟨f0, f1, f2, f3, f4, f5⟩ isFirst = false by cases hatt : attrsOk f3 <;> simp_all [nodeRightB, nodeOk, bytes_nil] <;> omega)
    go_enter Try.func40, Try.ntmps40
    go_wp2_with (first | (go_at_call 48; refine (attrsRight_calls A c f3 _ (Kd.C_below HR.out ((Below.refl _ _).alloc (Nat.le_refl _) _)) HC.out).mono ?_; rintro e w9 ⟨rfl, hb9⟩; have HB9 := Aside0.mk (((Below.refl _ w).alloc (Nat.le_refl _) _).trans (hb9.mono (by simp))); clear hb9))
    go_ret
    rw [hres.out]
    exact ⟨rfl, by first | exact HB9.out | exact (Below.refl _ _).alloc (Nat.le_refl _) _⟩
  · skip
    rcases Bool.eq_false_or_eq_true (decide (f0 > 1000000)) with a2 | a2
    · skip
      have hres := Aside0.mk (show nodeRightB ⟨f0, f1, f2, f3, f4, f5⟩ isFirst = false by cases hatt : attrsOk f3 <;> simp_all [nodeRightB, nodeOk, bytes_nil] <;> omega)
      go_enter Try.func40, Try.ntmps40
      go_wp2_with (first | (go_at_call 48; refine (attrsRight_calls A c f3 _ (Kd.C_below HR.out ((Below.refl _ _).alloc (Nat.le_refl _) _)) HC.out).mono ?_; rintro e w9 ⟨rfl, hb9⟩; have HB9 := Aside0.mk (((Below.refl _ w).alloc (Nat.le_refl _) _).trans (hb9.mono (by simp))); clear hb9))
      go_ret
      rw [hres.out]
      exact ⟨rfl, by first | exact HB9.out | exact (Below.refl _ _).alloc (Nat.le_refl _) _⟩
    · skip
      rcases Bool.eq_false_or_eq_true (decide (f5 < 0)) with a3 | a3
      · skip
        have hres := Aside0.mk (show nodeRightB ⟨f0, f1, f2, f3, f4, f5⟩ isFirst = false by cases hatt : attrsOk f3 <;> simp_all [nodeRightB, nodeOk, bytes_nil] <;> omega)
        go_enter Try.func40, Try.ntmps40
        go_wp2_with (first | (go_at_call 48; refine (attrsRight_calls A c f3 _ (Kd.C_below HR.out ((Below.refl _ _).alloc (Nat.le_refl _) _)) HC.out).mono ?_; rintro e w9 ⟨rfl, hb9⟩; have HB9 := Aside0.mk (((Below.refl _ w).alloc (Nat.le_refl _) _).trans (hb9.mono (by simp))); clear hb9))
        go_ret
        rw [hres.out]
        exact ⟨rfl, by first | exact HB9.out | exact (Below.refl _ _).alloc (Nat.le_refl _) _⟩
      · skip
        cases isFirst
        · skip
          rcases Bool.eq_false_or_eq_true ((f1 == 1)) with k1 | k1
          · skip
            have hres := Aside0.mk (show nodeRightB ⟨f0, f1, f2, f3, f4, f5⟩ false = false by cases hatt : attrsOk f3 <;> simp_all [nodeRightB, nodeOk, bytes_nil] <;> omega)
            go_enter Try.func40, Try.ntmps40
            go_wp2_with (first | (go_at_call 48; refine (attrsRight_calls A c f3 _ (Kd.C_below HR.out ((Below.refl _ _).alloc (Nat.le_refl _) _)) HC.out).mono ?_; rintro e w9 ⟨rfl, hb9⟩; have HB9 := Aside0.mk (((Below.refl _ w).alloc (Nat.le_refl _) _).trans (hb9.mono (by simp))); clear hb9))
            go_ret
            rw [hres.out]
            exact ⟨rfl, by first | exact HB9.out | exact (Below.refl _ _).alloc (Nat.le_refl _) _⟩
          · skip
            rcases Bool.eq_false_or_eq_true ((f1 == 2)) with k2 | k2
            · skip
              rcases Bool.eq_false_or_eq_true (f2.toList.isEmpty) with e2 | e2
              · skip
                have hres := Aside0.mk (show nodeRightB ⟨f0, f1, f2, f3, f4, f5⟩ false = false by cases hatt : attrsOk f3 <;> simp_all [nodeRightB, nodeOk, bytes_nil] <;> omega)
                go_enter Try.func40, Try.ntmps40
                go_wp2_with (first | (go_at_call 48; refine (attrsRight_calls A c f3 _ (Kd.C_below HR.out ((Below.refl _ _).alloc (Nat.le_refl _) _)) HC.out).mono ?_; rintro e w9 ⟨rfl, hb9⟩; have HB9 := Aside0.mk (((Below.refl _ w).alloc (Nat.le_refl _) _).trans (hb9.mono (by simp))); clear hb9))
                go_ret
                rw [hres.out]
                exact ⟨rfl, by first | exact HB9.out | exact (Below.refl _ _).alloc (Nat.le_refl _) _⟩
              · skip
                rcases Bool.eq_false_or_eq_true (f4.toList.isEmpty) with e4 | e4
                · skip
                  have hres := Aside0.mk (show nodeRightB ⟨f0, f1, f2, f3, f4, f5⟩ false = attrsOk f3 by cases hatt : attrsOk f3 <;> simp_all [nodeRightB, nodeOk, bytes_nil] <;> omega)
                  go_enter Try.func40, Try.ntmps40
                  go_wp2_with (first | (go_at_call 48; refine (attrsRight_calls A c f3 _ (Kd.C_below HR.out ((Below.refl _ _).alloc (Nat.le_refl _) _)) HC.out).mono ?_; rintro e w9 ⟨rfl, hb9⟩; have HB9 := Aside0.mk (((Below.refl _ w).alloc (Nat.le_refl _) _).trans (hb9.mono (by simp))); clear hb9))
                  go_ret
                  rw [hres.out]
                  exact ⟨rfl, by first | exact HB9.out | exact (Below.refl _ _).alloc (Nat.le_refl _) _⟩
                · skip
                  have hres := Aside0.mk (show nodeRightB ⟨f0, f1, f2, f3, f4, f5⟩ false = false by cases hatt : attrsOk f3 <;> simp_all [nodeRightB, nodeOk, bytes_nil] <;> omega)
                  go_enter Try.func40, Try.ntmps40
                  go_wp2_with (first | (go_at_call 48; refine (attrsRight_calls A c f3 _ (Kd.C_below HR.out ((Below.refl _ _).alloc (Nat.le_refl _) _)) HC.out).mono ?_; rintro e w9 ⟨rfl, hb9⟩; have HB9 := Aside0.mk (((Below.refl _ w).alloc (Nat.le_refl _) _).trans (hb9.mono (by simp))); clear hb9))
                  go_ret
                  rw [hres.out]
                  exact ⟨rfl, by first | exact HB9.out | exact (Below.refl _ _).alloc (Nat.le_refl _) _⟩
            · skip
              rcases Bool.eq_false_or_eq_true ((f1 == 3)) with k3 | k3
              · skip
                rcases Bool.eq_false_or_eq_true (f4.toList.isEmpty) with e4 | e4
                · skip
                  have hres := Aside0.mk (show nodeRightB ⟨f0, f1, f2, f3, f4, f5⟩ false = false by cases hatt : attrsOk f3 <;> simp_all [nodeRightB, nodeOk, bytes_nil] <;> omega)
                  go_enter Try.func40, Try.ntmps40
                  go_wp2_with (first | (go_at_call 48; refine (attrsRight_calls A c f3 _ (Kd.C_below HR.out ((Below.refl _ _).alloc (Nat.le_refl _) _)) HC.out).mono ?_; rintro e w9 ⟨rfl, hb9⟩; have HB9 := Aside0.mk (((Below.refl _ w).alloc (Nat.le_refl _) _).trans (hb9.mono (by simp))); clear hb9))
                  go_ret
                  rw [hres.out]
                  exact ⟨rfl, by first | exact HB9.out | exact (Below.refl _ _).alloc (Nat.le_refl _) _⟩
                · skip
                  rcases Bool.eq_false_or_eq_true (f2.toList.isEmpty) with e2 | e2
                  · skip
                    rcases Bool.eq_false_or_eq_true (((f3.length : Int) == 0)) with l3 | l3
                    · skip
                      rcases Bool.eq_false_or_eq_true ((f5 == 0)) with z5 | z5
                      · skip
                        have hres := Aside0.mk (show nodeRightB ⟨f0, f1, f2, f3, f4, f5⟩ false = true by cases hatt : attrsOk f3 <;> simp_all [nodeRightB, nodeOk, bytes_nil] <;> omega)
                        go_enter Try.func40, Try.ntmps40
                        go_wp2_with (first | (go_at_call 48; refine (attrsRight_calls A c f3 _ (Kd.C_below HR.out ((Below.refl _ _).alloc (Nat.le_refl _) _)) HC.out).mono ?_; rintro e w9 ⟨rfl, hb9⟩; have HB9 := Aside0.mk (((Below.refl _ w).alloc (Nat.le_refl _) _).trans (hb9.mono (by simp))); clear hb9))
                        go_ret
                        rw [hres.out]
                        exact ⟨rfl, by first | exact HB9.out | exact (Below.refl _ _).alloc (Nat.le_refl _) _⟩
                      · skip
                        have hres := Aside0.mk (show nodeRightB ⟨f0, f1, f2, f3, f4, f5⟩ false = false by cases hatt : attrsOk f3 <;> simp_all [nodeRightB, nodeOk, bytes_nil] <;> omega)
                        go_enter Try.func40, Try.ntmps40
                        go_wp2_with (first | (go_at_call 48; refine (attrsRight_calls A c f3 _ (Kd.C_below HR.out ((Below.refl _ _).alloc (Nat.le_refl _) _)) HC.out).mono ?_; rintro e w9 ⟨rfl, hb9⟩; have HB9 := Aside0.mk (((Below.refl _ w).alloc (Nat.le_refl _) _).trans (hb9.mono (by simp))); clear hb9))
                        go_ret
                        rw [hres.out]
                        exact ⟨rfl, by first | exact HB9.out | exact (Below.refl _ _).alloc (Nat.le_refl _) _⟩
                    · skip
                      have hres := Aside0.mk (show nodeRightB ⟨f0, f1, f2, f3, f4, f5⟩ false = false by cases hatt : attrsOk f3 <;> simp_all [nodeRightB, nodeOk, bytes_nil] <;> omega)
                      go_enter Try.func40, Try.ntmps40
                      go_wp2_with (first | (go_at_call 48; refine (attrsRight_calls A c f3 _ (Kd.C_below HR.out ((Below.refl _ _).alloc (Nat.le_refl _) _)) HC.out).mono ?_; rintro e w9 ⟨rfl, hb9⟩; have HB9 := Aside0.mk (((Below.refl _ w).alloc (Nat.le_refl _) _).trans (hb9.mono (by simp))); clear hb9))
                      go_ret
                      rw [hres.out]
                      exact ⟨rfl, by first | exact HB9.out | exact (Below.refl _ _).alloc (Nat.le_refl _) _⟩
                  · skip
                    have hres := Aside0.mk (show nodeRightB ⟨f0, f1, f2, f3, f4, f5⟩ false = false by cases hatt : attrsOk f3 <;> simp_all [nodeRightB, nodeOk, bytes_nil] <;> omega)
                    go_enter Try.func40, Try.ntmps40
                    go_wp2_with (first | (go_at_call 48; refine (attrsRight_calls A c f3 _ (Kd.C_below HR.out ((Below.refl _ _).alloc (Nat.le_refl _) _)) HC.out).mono ?_; rintro e w9 ⟨rfl, hb9⟩; have HB9 := Aside0.mk (((Below.refl _ w).alloc (Nat.le_refl _) _).trans (hb9.mono (by simp))); clear hb9))
                    go_ret
                    rw [hres.out]
                    exact ⟨rfl, by first | exact HB9.out | exact (Below.refl _ _).alloc (Nat.le_refl _) _⟩
              · skip
                rcases Bool.eq_false_or_eq_true ((f1 == 4)) with k4 | k4
                · skip
                  rcases Bool.eq_false_or_eq_true (f2.toList.isEmpty) with e2 | e2
                  · skip
                    rcases Bool.eq_false_or_eq_true (((f3.length : Int) == 0)) with l3 | l3
                    · skip
                      rcases Bool.eq_false_or_eq_true ((f5 == 0)) with z5 | z5
                      · skip
                        have hres := Aside0.mk (show nodeRightB ⟨f0, f1, f2, f3, f4, f5⟩ false = true by cases hatt : attrsOk f3 <;> simp_all [nodeRightB, nodeOk, bytes_nil] <;> omega)
                        go_enter Try.func40, Try.ntmps40
                        go_wp2_with (first | (go_at_call 48; refine (attrsRight_calls A c f3 _ (Kd.C_below HR.out ((Below.refl _ _).alloc (Nat.le_refl _) _)) HC.out).mono ?_; rintro e w9 ⟨rfl, hb9⟩; have HB9 := Aside0.mk (((Below.refl _ w).alloc (Nat.le_refl _) _).trans (hb9.mono (by simp))); clear hb9))
                        go_ret
                        rw [hres.out]
                        exact ⟨rfl, by first | exact HB9.out | exact (Below.refl _ _).alloc (Nat.le_refl _) _⟩
                      · skip
                        have hres := Aside0.mk (show nodeRightB ⟨f0, f1, f2, f3, f4, f5⟩ false = false by cases hatt : attrsOk f3 <;> simp_all [nodeRightB, nodeOk, bytes_nil] <;> omega)
                        go_enter Try.func40, Try.ntmps40
                        go_wp2_with (first | (go_at_call 48; refine (attrsRight_calls A c f3 _ (Kd.C_below HR.out ((Below.refl _ _).alloc (Nat.le_refl _) _)) HC.out).mono ?_; rintro e w9 ⟨rfl, hb9⟩; have HB9 := Aside0.mk (((Below.refl _ w).alloc (Nat.le_refl _) _).trans (hb9.mono (by simp))); clear hb9))
                        go_ret
                        rw [hres.out]
                        exact ⟨rfl, by first | exact HB9.out | exact (Below.refl _ _).alloc (Nat.le_refl _) _⟩
                    · skip
                      have hres := Aside0.mk (show nodeRightB ⟨f0, f1, f2, f3, f4, f5⟩ false = false by cases hatt : attrsOk f3 <;> simp_all [nodeRightB, nodeOk, bytes_nil] <;> omega)
                      go_enter Try.func40, Try.ntmps40
                      go_wp2_with (first | (go_at_call 48; refine (attrsRight_calls A c f3 _ (Kd.C_below HR.out ((Below.refl _ _).alloc (Nat.le_refl _) _)) HC.out).mono ?_; rintro e w9 ⟨rfl, hb9⟩; have HB9 := Aside0.mk (((Below.refl _ w).alloc (Nat.le_refl _) _).trans (hb9.mono (by simp))); clear hb9))
                      go_ret
                      rw [hres.out]
                      exact ⟨rfl, by first | exact HB9.out | exact (Below.refl _ _).alloc (Nat.le_refl _) _⟩
                  · skip
                    have hres := Aside0.mk (show nodeRightB ⟨f0, f1, f2, f3, f4, f5⟩ false = false by cases hatt : attrsOk f3 <;> simp_all [nodeRightB, nodeOk, bytes_nil] <;> omega)
                    go_enter Try.func40, Try.ntmps40
                    go_wp2_with (first | (go_at_call 48; refine (attrsRight_calls A c f3 _ (Kd.C_below HR.out ((Below.refl _ _).alloc (Nat.le_refl _) _)) HC.out).mono ?_; rintro e w9 ⟨rfl, hb9⟩; have HB9 := Aside0.mk (((Below.refl _ w).alloc (Nat.le_refl _) _).trans (hb9.mono (by simp))); clear hb9))
                    go_ret
                    rw [hres.out]
                    exact ⟨rfl, by first | exact HB9.out | exact (Below.refl _ _).alloc (Nat.le_refl _) _⟩
                · skip
                  rcases Bool.eq_false_or_eq_true ((f1 == 5)) with k5 | k5
                  · skip
                    rcases Bool.eq_false_or_eq_true (f4.toList.isEmpty) with e4 | e4
                    · skip
                      rcases Bool.eq_false_or_eq_true (((f3.length : Int) == 0)) with l3 | l3
                      · skip
                        rcases Bool.eq_false_or_eq_true ((f5 == 0)) with z5 | z5
                        · skip
                          have hres := Aside0.mk (show nodeRightB ⟨f0, f1, f2, f3, f4, f5⟩ false = true by cases hatt : attrsOk f3 <;> simp_all [nodeRightB, nodeOk, bytes_nil] <;> omega)
                          go_enter Try.func40, Try.ntmps40
                          go_wp2_with (first | (go_at_call 48; refine (attrsRight_calls A c f3 _ (Kd.C_below HR.out ((Below.refl _ _).alloc (Nat.le_refl _) _)) HC.out).mono ?_; rintro e w9 ⟨rfl, hb9⟩; have HB9 := Aside0.mk (((Below.refl _ w).alloc (Nat.le_refl _) _).trans (hb9.mono (by simp))); clear hb9))
                          go_ret
                          rw [hres.out]
                          exact ⟨rfl, by first | exact HB9.out | exact (Below.refl _ _).alloc (Nat.le_refl _) _⟩
                        · skip
                          have hres := Aside0.mk (show nodeRightB ⟨f0, f1, f2, f3, f4, f5⟩ false = false by cases hatt : attrsOk f3 <;> simp_all [nodeRightB, nodeOk, bytes_nil] <;> omega)
                          go_enter Try.func40, Try.ntmps40
                          go_wp2_with (first | (go_at_call 48; refine (attrsRight_calls A c f3 _ (Kd.C_below HR.out ((Below.refl _ _).alloc (Nat.le_refl _) _)) HC.out).mono ?_; rintro e w9 ⟨rfl, hb9⟩; have HB9 := Aside0.mk (((Below.refl _ w).alloc (Nat.le_refl _) _).trans (hb9.mono (by simp))); clear hb9))
                          go_ret
                          rw [hres.out]
                          exact ⟨rfl, by first | exact HB9.out | exact (Below.refl _ _).alloc (Nat.le_refl _) _⟩
                      · skip
                        have hres := Aside0.mk (show nodeRightB ⟨f0, f1, f2, f3, f4, f5⟩ false = false by cases hatt : attrsOk f3 <;> simp_all [nodeRightB, nodeOk, bytes_nil] <;> omega)
                        go_enter Try.func40, Try.ntmps40
                        go_wp2_with (first | (go_at_call 48; refine (attrsRight_calls A c f3 _ (Kd.C_below HR.out ((Below.refl _ _).alloc (Nat.le_refl _) _)) HC.out).mono ?_; rintro e w9 ⟨rfl, hb9⟩; have HB9 := Aside0.mk (((Below.refl _ w).alloc (Nat.le_refl _) _).trans (hb9.mono (by simp))); clear hb9))
                        go_ret
                        rw [hres.out]
                        exact ⟨rfl, by first | exact HB9.out | exact (Below.refl _ _).alloc (Nat.le_refl _) _⟩
                    · skip
                      have hres := Aside0.mk (show nodeRightB ⟨f0, f1, f2, f3, f4, f5⟩ false = false by cases hatt : attrsOk f3 <;> simp_all [nodeRightB, nodeOk, bytes_nil] <;> omega)
                      go_enter Try.func40, Try.ntmps40
                      go_wp2_with (first | (go_at_call 48; refine (attrsRight_calls A c f3 _ (Kd.C_below HR.out ((Below.refl _ _).alloc (Nat.le_refl _) _)) HC.out).mono ?_; rintro e w9 ⟨rfl, hb9⟩; have HB9 := Aside0.mk (((Below.refl _ w).alloc (Nat.le_refl _) _).trans (hb9.mono (by simp))); clear hb9))
                      go_ret
                      rw [hres.out]
                      exact ⟨rfl, by first | exact HB9.out | exact (Below.refl _ _).alloc (Nat.le_refl _) _⟩
                  · skip
                    have hres := Aside0.mk (show nodeRightB ⟨f0, f1, f2, f3, f4, f5⟩ false = false by cases hatt : attrsOk f3 <;> simp_all [nodeRightB, nodeOk, bytes_nil] <;> omega)
                    go_enter Try.func40, Try.ntmps40
                    go_wp2_with (first | (go_at_call 48; refine (attrsRight_calls A c f3 _ (Kd.C_below HR.out ((Below.refl _ _).alloc (Nat.le_refl _) _)) HC.out).mono ?_; rintro e w9 ⟨rfl, hb9⟩; have HB9 := Aside0.mk (((Below.refl _ w).alloc (Nat.le_refl _) _).trans (hb9.mono (by simp))); clear hb9))
                    go_ret
                    rw [hres.out]
                    exact ⟨rfl, by first | exact HB9.out | exact (Below.refl _ _).alloc (Nat.le_refl _) _⟩
        · skip
          rcases Bool.eq_false_or_eq_true ((f1 == 1)) with k1 | k1
          · skip
            rcases Bool.eq_false_or_eq_true (f2.toList.isEmpty) with e2 | e2
            · skip
              rcases Bool.eq_false_or_eq_true (((f3.length : Int) == 0)) with l3 | l3
              · skip
                rcases Bool.eq_false_or_eq_true (f4.toList.isEmpty) with e4 | e4
                · skip
                  have hres := Aside0.mk (show nodeRightB ⟨f0, f1, f2, f3, f4, f5⟩ true = true by cases hatt : attrsOk f3 <;> simp_all [nodeRightB, nodeOk, bytes_nil] <;> omega)
                  go_enter Try.func40, Try.ntmps40
                  go_wp2_with (first | (go_at_call 48; refine (attrsRight_calls A c f3 _ (Kd.C_below HR.out ((Below.refl _ _).alloc (Nat.le_refl _) _)) HC.out).mono ?_; rintro e w9 ⟨rfl, hb9⟩; have HB9 := Aside0.mk (((Below.refl _ w).alloc (Nat.le_refl _) _).trans (hb9.mono (by simp))); clear hb9))
                  go_ret
                  rw [hres.out]
                  exact ⟨rfl, by first | exact HB9.out | exact (Below.refl _ _).alloc (Nat.le_refl _) _⟩
                · skip
                  have hres := Aside0.mk (show nodeRightB ⟨f0, f1, f2, f3, f4, f5⟩ true = false by cases hatt : attrsOk f3 <;> simp_all [nodeRightB, nodeOk, bytes_nil] <;> omega)
                  go_enter Try.func40, Try.ntmps40
                  go_wp2_with (first | (go_at_call 48; refine (attrsRight_calls A c f3 _ (Kd.C_below HR.out ((Below.refl _ _).alloc (Nat.le_refl _) _)) HC.out).mono ?_; rintro e w9 ⟨rfl, hb9⟩; have HB9 := Aside0.mk (((Below.refl _ w).alloc (Nat.le_refl _) _).trans (hb9.mono (by simp))); clear hb9))
                  go_ret
                  rw [hres.out]
                  exact ⟨rfl, by first | exact HB9.out | exact (Below.refl _ _).alloc (Nat.le_refl _) _⟩
              · skip
                have hres := Aside0.mk (show nodeRightB ⟨f0, f1, f2, f3, f4, f5⟩ true = false by cases hatt : attrsOk f3 <;> simp_all [nodeRightB, nodeOk, bytes_nil] <;> omega)
                go_enter Try.func40, Try.ntmps40
                go_wp2_with (first | (go_at_call 48; refine (attrsRight_calls A c f3 _ (Kd.C_below HR.out ((Below.refl _ _).alloc (Nat.le_refl _) _)) HC.out).mono ?_; rintro e w9 ⟨rfl, hb9⟩; have HB9 := Aside0.mk (((Below.refl _ w).alloc (Nat.le_refl _) _).trans (hb9.mono (by simp))); clear hb9))
                go_ret
                rw [hres.out]
                exact ⟨rfl, by first | exact HB9.out | exact (Below.refl _ _).alloc (Nat.le_refl _) _⟩
            · skip
              have hres := Aside0.mk (show nodeRightB ⟨f0, f1, f2, f3, f4, f5⟩ true = false by cases hatt : attrsOk f3 <;> simp_all [nodeRightB, nodeOk, bytes_nil] <;> omega)
              go_enter Try.func40, Try.ntmps40
              go_wp2_with (first | (go_at_call 48; refine (attrsRight_calls A c f3 _ (Kd.C_below HR.out ((Below.refl _ _).alloc (Nat.le_refl _) _)) HC.out).mono ?_; rintro e w9 ⟨rfl, hb9⟩; have HB9 := Aside0.mk (((Below.refl _ w).alloc (Nat.le_refl _) _).trans (hb9.mono (by simp))); clear hb9))
              go_ret
              rw [hres.out]
              exact ⟨rfl, by first | exact HB9.out | exact (Below.refl _ _).alloc (Nat.le_refl _) _⟩
          · skip
            have hres := Aside0.mk (show nodeRightB ⟨f0, f1, f2, f3, f4, f5⟩ true = false by cases hatt : attrsOk f3 <;> simp_all [nodeRightB, nodeOk, bytes_nil] <;> omega)
            go_enter Try.func40, Try.ntmps40
            go_wp2_with (first | (go_at_call 48; refine (attrsRight_calls A c f3 _ (Kd.C_below HR.out ((Below.refl _ _).alloc (Nat.le_refl _) _)) HC.out).mono ?_; rintro e w9 ⟨rfl, hb9⟩; have HB9 := Aside0.mk (((Below.refl _ w).alloc (Nat.le_refl _) _).trans (hb9.mono (by simp))); clear hb9))
            go_ret
            rw [hres.out]
            exact ⟨rfl, by first | exact HB9.out | exact (Below.refl _ _).alloc (Nat.le_refl _) _⟩
end Go.Proofs.Ytcjaakbmabhmdaa.Impl
