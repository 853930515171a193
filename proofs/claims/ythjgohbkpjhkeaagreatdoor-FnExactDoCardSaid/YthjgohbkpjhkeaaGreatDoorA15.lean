/- Part 15 of the proof: DoForm, DoClone, DoDelA, DoDrop, DoAfter. -/
import Derived.Test.YthjgohbkpjhkeaaGreatDoorA14
import Derived.Test.YthjgohbkpjhkeaaGreatDoorA1
import Derived.Test.YthjgohbkpjhkeaaGreatDoorA13
import Derived.WalkSpells
import Derived.Test.YthjgohbkpjhkeaaGreatDoorA6
import Derived.Test.YthjgohbkpjhkeaaGreatDoorA3
import Derived.Deep.RegionLaw
import Derived.Deep.LoopGhost
import Derived.Lib.Walk
import Derived.Test.YthjgohbkpjhkeaaGreatDoorA10
import Derived.Deep.QuietTactic
import Derived.BigQuiet
set_option linter.unusedVariables false
set_option linter.unusedSimpArgs false
namespace Go.Proofs.YthjgohbkpjhkeaaGreatDoor.Impl
open Go.RowKit Go.Proofs.YthjgohbkpjhkeaaGreatDoorW.PrintWords Go.Proofs.YthjgohbkpjhkeaaGreatDoorW.PrintLast Go.Proofs.YthjgohbkpjhkeaaGreatDoorW.PrintMore Go.Proofs.YthjgohbkpjhkeaaGreatDoor.PFnExactDo Go.Proofs.YthjgohbkpjhkeaaGreatDoor.MapLib Go.Proofs.YthjgohbkpjhkeaaGreatDoor.FireSpec Go.Proofs.YthjgohbkpjhkeaaGreatDoor.Tr Go.Proofs.YthjgohbkpjhkeaaGreatDoor.Fo
theorem blocks_sub : ∀ F : Fo TW, ((flat F).map (·.1.b)).Sublist (foot F)
 | .nil => by simp [flat, foot]
 | .node x k r => by
  simp only [flat, foot, List.map_cons, List.map_append]
  exact List.Sublist.cons_cons _ ((List.Sublist.append (blocks_sub k) (blocks_sub r)).trans (List.sublist_append_right _ _))
theorem at_sub : ∀ (F : Fo TW) (p : Nat) (x : TW) (m : Nat), (flat F)[p]? = some (x, m) → ∃ l, Sub F x l ∧ m = len l
 | .nil, p, x, m, h => by simp [flat] at h
 | .node y k r, 0, x, m, h => by
  simp only [flat, List.getElem?_cons_zero, Option.some.injEq, Prod.mk.injEq] at h
  obtain ⟨rfl, rfl⟩ := h
  exact ⟨k, .here _ _ _, rfl⟩
 | .node y k r, p + 1, x, m, h => by
  simp only [flat, List.getElem?_cons_succ] at h
  rcases Nat.lt_or_ge p (flat k).length with hp | hp
  ·rw [List.getElem?_append_left hp] at h
   obtain ⟨l, h1, h2⟩ := at_sub k p x m h
   exact ⟨l, .kid _ _ _ _ _ h1, h2⟩
  ·rw [List.getElem?_append_right hp] at h
   obtain ⟨l, h1, h2⟩ := at_sub r (p - (flat k).length) x m h
   exact ⟨l, .next _ _ _ _ _ h1, h2⟩
theorem flat_sub {F : Fo TW} {y : TW} {l : Fo TW} (hs : Sub F y l) : (foot F).Nodup → ∃ A B, flat F = A ++ (y, len l) :: (flat l ++ B) ∧ ∀ (x' : TW → TW) (g : Fo TW → Fo TW), flat (Fo.upd (fun z => z.b == y.b) x' g F) = A ++ (x' y, len (g l)) :: (flat (g l) ++ B) := by
 induction hs with
 | here x k r =>
  intro hd
  refine ⟨[], flat r, by simp [flat], fun x' g => ?_⟩
  have e : Fo.upd (fun z : TW => z.b == x.b) x' g (.node x k r) = .node (x' x) (g k) r := by simp [Fo.upd]
  rw [e]
  simp [flat]
 | kid x k r y l hs ih =>
  intro hd
  have hsub := sub_foot hs
  simp only [foot] at hd
  have hd1 := (List.nodup_cons.1 hd)
  have hd2 := List.nodup_append.1 hd1.2
  have hd3 := List.nodup_append.1 hd2.2.1
  have hyk : y.b ∈ foot k := hsub _ (by simp [tfoot])
  have hxy : x.b ≠ y.b := fun e => hd1.1 (by rw [e]; simp [hyk])
  have hbr : y.b ∉ foot r := fun e => hd3.2.2 _ hyk _ e rfl
  obtain ⟨A, B, h1, h2⟩ := ih hd3.1
  refine ⟨(x, len k) :: A, B ++ flat r, by simp [flat, h1], fun x' g => ?_⟩
  have e : Fo.upd (fun z : TW => z.b == y.b) x' g (.node x k r) = .node x (Fo.upd (fun z : TW => z.b == y.b) x' g k) r := by
   simp [Fo.upd, hxy, upd_other y.b x' g r hbr]
  rw [e]
  simp [flat, h2, len_upd]
 | next x k r y l hs ih =>
  intro hd
  have hsub := sub_foot hs
  simp only [foot] at hd
  have hd1 := (List.nodup_cons.1 hd)
  have hd2 := List.nodup_append.1 hd1.2
  have hd3 := List.nodup_append.1 hd2.2.1
  have hyr : y.b ∈ foot r := hsub _ (by simp [tfoot])
  have hxy : x.b ≠ y.b := fun e => hd1.1 (by rw [e]; simp [hyr])
  have hbk : y.b ∉ foot k := fun e => hd3.2.2 _ e _ hyr rfl
  obtain ⟨A, B, h1, h2⟩ := ih hd3.2.1
  refine ⟨(x, len k) :: (flat k ++ A), B, by simp [flat, h1], fun x' g => ?_⟩
  have e : Fo.upd (fun z : TW => z.b == y.b) x' g (.node x k r) = .node x k (Fo.upd (fun z : TW => z.b == y.b) x' g r) := by
   simp [Fo.upd, hxy, upd_other y.b x' g k hbk]
  rw [e]
  simp [flat, h2]
theorem flat_at {F : Fo TW} (hd : (foot F).Nodup) {p : Nat} {x : TW} {m : Nat} (h : (flat F)[p]? = some (x, m)) : ∃ kf B, Sub F x kf ∧ m = len kf ∧ flat F = (flat F).take p ++ (x, m) :: (flat kf ++ B) ∧ ∀ (x' : TW → TW) (g : Fo TW → Fo TW), flat (Fo.upd (fun z => z.b == x.b) x' g F) = (flat F).take p ++ (x' x, len (g kf)) :: (flat (g kf) ++ B) := by
 obtain ⟨l, hs, hm⟩ := at_sub F p x m h
 obtain ⟨A, B, h1, h2⟩ := flat_sub hs hd
 have hb : ((flat F).map (·.1.b)).Nodup := hd.sublist (blocks_sub F)
 have hA : (flat F)[A.length]? = some (x, len l) := by rw [h1, List.getElem?_append_right (Nat.le_refl _)]; simp
 have e : A.length = p := by
  have l1 := (List.getElem?_eq_some_iff.1 hA).1
  have l2 := (List.getElem?_eq_some_iff.1 h).1
  have e1 : ((flat F).map (·.1.b))[A.length]'(by simpa using l1) = ((flat F).map (·.1.b))[p]'(by simpa using l2) := by
   rw [List.getElem_map, List.getElem_map, (List.getElem?_eq_some_iff.1 hA).2, (List.getElem?_eq_some_iff.1 h).2]
  exact (List.getElem_inj hb).1 e1
 have eA : (flat F).take p = A := by rw [h1, ← e]; simp
 refine ⟨l, B, hs, hm, ?_, ?_⟩
 ·rw [eA, hm]; exact h1
 ·rw [eA]; exact h2
theorem kids_flat {w0 w : World} {base : Nat} : ∀ (f : Fo TW) (up : Value) (i : Nat), IsF w0 w base up i f → kids (nodesOf f) = Fo.ks (flat f)
 | .nil, _, _, _ => rfl
 | .node x k r, up, i, h => by
  have h1 := kids_flat k _ _ h.2.1
  have h2 := kids_flat r _ _ h.2.2
  unfold kids at *
  unfold Fo.ks at *
  rw [nodesOf_node]
  simp only [flat, List.map_cons, List.map_append, h1, h2]
  congr 1
  unfold kid
  rw [h.1.2.2.1]
  simp
def cutN (ns : List S95) (p j e : Nat) : List S95 := (ns.modify p (fun n => withKids n (kid n - 1))).take j ++ ns.drop e
def putN (ns : List S95) (p k : Nat) (what : List S95) : List S95 := (ns.modify p (fun n => withKids n (kid n + 1))).take k ++ (what ++ ns.drop k)
theorem modify_mid {α : Type} (A : List α) (x : α) (B : List α) (f : α → α) : (A ++ x :: B).modify A.length f = A ++ f x :: B := by
 induction A with
 | nil => rfl
 | cons a A ih =>
  show a :: (A ++ x :: B).modify A.length f = _
  rw [ih]
  rfl
theorem cut_split (A : List S95) (y : S95) (K1 T R : List S95) (m : Nat) (hm : kid y = m + 1) : cutN (A ++ y :: (K1 ++ (T ++ R))) A.length (A.length + 1 + K1.length) (A.length + 1 + K1.length + T.length) = A ++ withKids y m :: (K1 ++ R) := by
 unfold cutN
 rw [modify_mid, hm, Nat.add_sub_cancel]
 have e1 : A ++ withKids y m :: (K1 ++ (T ++ R)) = (A ++ withKids y m :: K1) ++ (T ++ R) := by simp
 have e2 : A ++ y :: (K1 ++ (T ++ R)) = ((A ++ y :: K1) ++ T) ++ R := by simp
 rw [e1, e2, List.take_left' (by simp; omega), List.drop_left' (by simp; omega)]
 simp
theorem put_split (A : List S95) (y : S95) (K1 R W : List S95) (m : Nat) (hm : kid y = m) : putN (A ++ y :: (K1 ++ R)) A.length (A.length + 1 + K1.length) W = A ++ withKids y (m + 1) :: (K1 ++ (W ++ R)) := by
 unfold putN
 rw [modify_mid, hm]
 have e1 : A ++ withKids y (m + 1) :: (K1 ++ R) = (A ++ withKids y (m + 1) :: K1) ++ R := by simp
 have e2 : A ++ y :: (K1 ++ R) = (A ++ y :: K1) ++ R := by simp
 rw [e1, e2, List.take_left' (by simp; omega), List.drop_left' (by simp; omega)]
 simp
theorem kid_withKids (n : S95) (m : Nat) : kid (withKids n m) = m := by simp [kid, withKids]
theorem nodes_cut {F kf k r : Fo TW} {y x : TW} {p m i : Nat} {B : List (TW × Nat)} {kv' : Value} {F' : Fo TW} (hA : flat F = (flat F).take p ++ (y, m) :: (flat kf ++ B)) (hm : kid y.n = len kf) (hi : i < len kf) (hdr : fdrop i kf = .node x k r) (hp : p < (flat F).length)
  (hF : flat F' = (flat F).take p ++ (⟨y.b, withKids y.n (len (app (ftake i kf) r)), kv'⟩, len (app (ftake i kf) r)) :: (flat (app (ftake i kf) r) ++ B)) :
  nodesOf F' = cutN (nodesOf F) p (p + 1 + size (ftake i kf)) (p + 1 + size (ftake i kf) + (size k + 1)) := by
 have hkf : flat kf = flat (ftake i kf) ++ ((x, len k) :: (flat k ++ flat r)) := by
  have e := congrArg flat (take_drop i kf)
  rw [flat_app, hdr] at e
  exact e.symm
 have hln : len (app (ftake i kf) r) + 1 = len kf := by
  have e := congrArg len (take_drop i kf)
  rw [len_app, hdr] at e
  rw [len_app]
  simp only [len] at e
  omega
 have hpl : ((flat F).take p).length = p := by rw [List.length_take]; omega
 have hn : nodesOf F = ((flat F).take p).map (·.1.n) ++ y.n :: (nodesOf (ftake i kf) ++ ((x.n :: nodesOf k) ++ (nodesOf r ++ B.map (·.1.n)))) := by
  unfold nodesOf
  conv => lhs; rw [hA, hkf]
  simp
 have h := cut_split (((flat F).take p).map (·.1.n)) y.n (nodesOf (ftake i kf)) (x.n :: nodesOf k) (nodesOf r ++ B.map (·.1.n)) (len (app (ftake i kf) r)) (by rw [hm, hln])
 rw [← hn] at h
 simp only [List.length_map, hpl, nodesOf_length, List.length_cons] at h
 rw [h]
 unfold nodesOf
 rw [hF, flat_app]
 simp
theorem nodes_put {F kf k : Fo TW} {y x : TW} {p m i : Nat} {B : List (TW × Nat)} {kv' : Value} {F' : Fo TW} (hA : flat F = (flat F).take p ++ (y, m) :: (flat kf ++ B)) (hm : kid y.n = len kf) (hi : i ≤ len kf) (hp : p < (flat F).length)
  (hF : flat F' = (flat F).take p ++ (⟨y.b, withKids y.n (len (app (ftake i kf) (.node x k (fdrop i kf)))), kv'⟩, len (app (ftake i kf) (.node x k (fdrop i kf)))) :: (flat (app (ftake i kf) (.node x k (fdrop i kf))) ++ B)) :
  nodesOf F' = putN (nodesOf F) p (p + 1 + size (ftake i kf)) (nodesOf (.node x k .nil)) := by
 have hkf : flat kf = flat (ftake i kf) ++ flat (fdrop i kf) := by
  have e := congrArg flat (take_drop i kf)
  rw [flat_app] at e
  exact e.symm
 have hln : len (app (ftake i kf) (.node x k (fdrop i kf))) = len kf + 1 := by
  have e := congrArg len (take_drop i kf)
  rw [len_app] at e
  rw [len_app]
  simp only [len]
  omega
 have hpl : ((flat F).take p).length = p := by rw [List.length_take]; omega
 have hn : nodesOf F = ((flat F).take p).map (·.1.n) ++ y.n :: (nodesOf (ftake i kf) ++ (nodesOf (fdrop i kf) ++ B.map (·.1.n))) := by
  unfold nodesOf
  conv => lhs; rw [hA, hkf]
  simp
 have h := put_split (((flat F).take p).map (·.1.n)) y.n (nodesOf (ftake i kf)) (nodesOf (fdrop i kf) ++ B.map (·.1.n)) (nodesOf (.node x k .nil)) (len kf) hm
 rw [← hn] at h
 simp only [List.length_map, hpl, nodesOf_length] at h
 rw [h]
 unfold nodesOf
 rw [hF, flat_app, hln]
 simp [flat]
end Go.Proofs.YthjgohbkpjhkeaaGreatDoor.Impl
set_option maxHeartbeats 4000000
set_option maxRecDepth 100000
namespace Go.Proofs.YthjgohbkpjhkeaaGreatDoor.Impl
open Go.RowKit Go.Lib Go.Proofs.YthjgohbkpjhkeaaGreatDoorW.PrintWords Go.Proofs.YthjgohbkpjhkeaaGreatDoorW.PrintLast Go.Proofs.YthjgohbkpjhkeaaGreatDoorW.PrintMore Go.Proofs.YthjgohbkpjhkeaaGreatDoor.PFnExactDo Go.Proofs.YthjgohbkpjhkeaaGreatDoor.FireSpec
theorem infoA : (Tryz.prog.info? 149).map (fun i => (i.zero, i.size, i.bytes)) = some (some (.agg #[.string ⟨#[]⟩, .string ⟨#[]⟩]), 2, 32) := by kernel_rfl
theorem clone_calls (A : Option Addr) (c : Nat) (xs : List Attr) (w : World) (hr : Kd.C k149 w A xs.length xs) (hc : xs.length ≤ c) (hnil : A = none → xs = []) (hn : xs.length ≤ 1000000000) :
  Calls Tryz.prog 111 #[.slice A xs.length c] w fun e w' => ∃ v, e = .returned v ∧ Kd.R k149 149 w' w.heap.size (fun _ => True) v xs ∧ Below w.heap.size w w' := by
 have hut := Tryz.underlying93
 cases A with
 | none =>
  obtain rfl := hnil rfl
  have HR := am hr
  clear hr hnil
  have e1 := Lib.run_eql_slice_nil (P := Tryz.prog)
  go_enter Tryz.func111, Tryz.ntmps111
  go_wp2
  go_ret
  exact ⟨_, rfl, Kd.R_nil _ _ _ _ _, Below.refl _ _⟩
 | some ad =>
  have HR := am hr
  clear hr hnil
  have e1 : ∀ w, (binOp .eql 93 (.slice (some ad) xs.length c) (.slice none 0 0)).run Tryz.prog w = .ok (.bool false) w := fun w => Lib.run_eql_slice_nil w _ _ _ _ _ 0 0 hut
  go_enter Tryz.func111, Tryz.ntmps111
  go_wp2_with (first | ((with_reducible refine gate_dst (N := 5) rfl ?_); refine Kd.R_lit k149 _ 149 ?hg (N := 5) ?hd (xs := ([] : List Attr)) (inner := []) (ok := fun _ => True) (okp := fun _ => True) ?hr ?hp (fun _ hk => hk) trivial (Below.refl _ _) (Nat.le_refl _) (by simp) ?_; (case hd => rfl); (case hg => rfl); (case hr => first | (go_simp; done) | (go_simp; rfl)); (case hp => exact (Reps.none _ _)); intro v5 w5 ho5 hb5 hg_ hnew_; clear hg_ hnew_; have HO := am ho5; have HB := am hb5; clear ho5 hb5) | ((with_reducible refine gate_builtin (b := .append) (xs := #[.tmp 5, .tmp 6]) rfl ?_); at_builtin; refine Kd.R_append_rows k149 (w0 := w) w.heap.size rfl (.tmp 5) (.tmp 6) 93 149 (.agg #[.string ⟨#[]⟩, .string ⟨#[]⟩]) 32 rfl hut infoA rfl (by decide) (by omega) v5 ([] : List Attr) xs _ _ _ (fun _ => True) (fun _ => False) rfl rfl HO.out (Kd.C_below HR.out HB.out) (fun _ _ h => h) (fun _ h => h.elim) (fun _ _ => trivial) HB.out HB.out.size ?aL ?_; (case aL => simp; omega); intro v7 w7 ho7 hb7 hg7 hat7; have HO7 := am ho7; have HB7 := am hb7; clear ho7 hb7 hg7 hat7))
  go_ret
  exact ⟨_, rfl, by simpa using HO7.out, HB7.out⟩
theorem stored_attr {w w2 w3 w4 : World} {x : S95} {A : Option Addr} {c : Nat} {v : Value} {cs2 : Array Value} (hw : w4 = w3.setCell ⟨w.heap.size, 3, none⟩ v) (g1 : w3.heap[w.heap.size]? = some (.cells #[.int .i64 x.f0, .int .i64 x.f1, .string x.f2, .slice A x.f3.length c, .string x.f4, .int .i64 x.f5] 95 (0, 0)))
  (g2 : w3.heap[w.heap.size + 1]? = some (.cells cs2 95 (0, 0))) (hb : Below w.heap.size w w3) (hr : Kd.R k149 149 w3 w2.heap.size (fun _ => True) v x.f3) (hs : w.heap.size ≤ w2.heap.size) (hl : w.heap.size + 1 < w2.heap.size) :
  w4.heap[w.heap.size]? = some (.cells #[.int .i64 x.f0, .int .i64 x.f1, .string x.f2, v, .string x.f4, .int .i64 x.f5] 95 (0, 0)) ∧ w4.heap[w.heap.size + 1]? = some (.cells cs2 95 (0, 0)) ∧ Below w.heap.size w w4 ∧ Kd.R k149 149 w4 w.heap.size (fun k => k ≠ w.heap.size + 1) v x.f3 := by
 obtain ⟨k1, k2, k3, k4⟩ := set_block hw g1
 exact ⟨k1, (k2 _ (by omega)).trans g2, k4 _ _ hb (Nat.le_refl _), Kd.R_lower (Kd.R_mono (Kd.R_move (Kd.R_bound hr) (fun k hk => k2 k (fun e => by have h1 := hk.2.1; omega))) (fun k hk => by have h1 := hk.2.1; omega)) hs⟩
theorem cloneNode_calls (A : Option Addr) (c : Nat) (x : S95) (w : World) (hr : Kd.C k149 w A x.f3.length x.f3) (hc : x.f3.length ≤ c) (hnil : A = none → x.f3 = []) (hn : x.f3.length ≤ 1000000000) :
  Calls Tryz.prog 84 #[.agg #[.int .i64 x.f0, .int .i64 x.f1, .string x.f2, .slice A x.f3.length c, .string x.f4, .int .i64 x.f5]] w fun e w' => ∃ v, e = .returned (.agg #[.int .i64 x.f0, .int .i64 x.f1, .string x.f2, v, .string x.f4, .int .i64 x.f5]) ∧ Kd.R k149 149 w' w.heap.size (fun _ => True) v x.f3 ∧ Below w.heap.size w w' := by
 have hun := Tryz.underlying95
 have HR := am hr
 have HN := am hnil
 clear hr hnil
 go_enter Tryz.func84, Tryz.ntmps84
 go_wp2_with fail
 generalize hw2 : World.alloc _ _ = w2
 have hb2 : Below w.heap.size w w2 := by rw [← hw2]; exact ((Below.refl _ _).alloc (Nat.le_refl _) _).alloc (by simp) _
 have h1 : w2.heap[w.heap.size]? = some (.cells #[.int .i64 x.f0, .int .i64 x.f1, .string x.f2, .slice A x.f3.length c, .string x.f4, .int .i64 x.f5] 95 (0, 0)) := by
  rw [← hw2]
  exact blk_below (MapLib.blk_newest w _) ((Below.refl _ _).alloc (Nat.le_refl _) _)
 have h2 : w2.heap[w.heap.size + 1]? = some (.cells #[.int .i64 0, .int .i64 0, .string ⟨#[]⟩, .slice none 0 0, .string ⟨#[]⟩, .int .i64 0] 95 (0, 0)) := by
  rw [← hw2]
  simpa using MapLib.blk_newest (w.alloc (.cells #[.int .i64 x.f0, .int .i64 x.f1, .string x.f2, .slice A x.f3.length c, .string x.f4, .int .i64 x.f5] 95)) _
 have HW := am (And.intro hb2 (And.intro h1 h2))
 have HC2 := am (Kd.C_below HR.out hb2)
 clear hw2 hb2 h1 h2
 refine (clone_calls A c x.f3 w2 HC2.out hc HN.out hn).mono ?_
 rintro e w3 ⟨v3, rfl, hr3, hb3⟩
 obtain ⟨A3, c3, rfl⟩ := Kd.R_slice hr3
 have g1 := blk_below HW.out.2.1 hb3
 have g2 := blk_below HW.out.2.2 hb3
 have hc1 : w3.cell? ⟨w.heap.size, 3, none⟩ = some (.slice A x.f3.length c) := blk_cell g1 3
 have hf1 := blk_frozen g1 3
 have HB3 := am (And.intro (below_step HW.out.1 hb3) (And.intro hr3 (And.intro g1 g2)))
 clear hr3 hb3 g1 g2
 go_wp2_with (first | ((with_reducible refine gate_store (t := 93) (p := 6) rfl ?_); refine store_event (t := 93) (p := 6) (v := ?vo) (w1 := w3.setCell ⟨w.heap.size, 3, none⟩ (.slice A3 x.f3.length c3)) ?hg ?ho ?hn ?hr ?_; (case ho => rfl); (case hg => rfl); (case hn => rfl); (case hr => first | (go_simp; done) | (go_simp; rfl)); intro w4 hw4; have HS := am (stored_attr hw4 HB3.out.2.2.1 HB3.out.2.2.2 HB3.out.1 HB3.out.2.1 HW.out.1.size (blk_lt HW.out.2.2)); clear hw4 hc1 hf1; have hq0 := blk_cell HS.out.1 0; have hq1 := blk_cell HS.out.1 1; have hq2 := blk_cell HS.out.1 2; have hq3 := blk_cell HS.out.1 3; have hq4 := blk_cell HS.out.1 4; have hq5 := blk_cell HS.out.1 5; have hp0 := blk_cell HS.out.2.1 0; have hp1 := blk_cell HS.out.2.1 1; have hp2 := blk_cell HS.out.2.1 2; have hp3 := blk_cell HS.out.2.1 3; have hp4 := blk_cell HS.out.2.1 4; have hp5 := blk_cell HS.out.2.1 5; have hpf := fun j => blk_frozen HS.out.2.1 j))
 refine bodyPost_ret (v := .agg #[.int .i64 x.f0, .int .i64 x.f1, .string x.f2, .slice A3 x.f3.length c3, .string x.f4, .int .i64 x.f5]) (by simp [results, Tryz.results84, go_sem, hp0, hp1, hp2, hp3, hp4, hp5]) rfl ⟨_, rfl, ?_, ?_⟩
 ·refine Kd.R_mono (Kd.R_far (Kd.R_far (Kd.R_far (Kd.R_far (Kd.R_far (Kd.R_far HS.out.2.2.2 (fun k hk => hk) _) (fun k hk => hk) _) (fun k hk => hk) _) (fun k hk => hk) _) (fun k hk => hk) _) (fun k hk => hk) _) (fun _ _ => trivial)
 ·exact (((((HS.out.2.2.1.setCell (Nat.le_succ _) _).setCell (Nat.le_succ _) _).setCell (Nat.le_succ _) _).setCell (Nat.le_succ _) _).setCell (Nat.le_succ _) _).setCell (Nat.le_succ _) _
end Go.Proofs.YthjgohbkpjhkeaaGreatDoor.Impl
set_option maxHeartbeats 4000000
set_option maxRecDepth 100000
namespace Go.Proofs.YthjgohbkpjhkeaaGreatDoor.Sl
open Go.RowKit Go.Lib Go.Proofs.YthjgohbkpjhkeaaGreatDoorW.PrintWords Go.Proofs.YthjgohbkpjhkeaaGreatDoorW.PrintLast Go.Proofs.YthjgohbkpjhkeaaGreatDoorW.PrintMore Go.Proofs.YthjgohbkpjhkeaaGreatDoor.PFnExactDo Go.Proofs.YthjgohbkpjhkeaaGreatDoor.Impl
theorem delA_calls (w : World) (base : Nat) (ok : Nat → Prop) (g n c i : Nat) (xs : List S149) (hr : Kd.R k149 149 w base ok (.slice (some ⟨g, 0, none⟩) n c) xs) (hi : i < n) (hb : base ≤ w.heap.size) :
  Calls Tryz.prog 180 #[.slice (some ⟨g, 0, none⟩) n c, .int .i64 i, .int .i64 ((i : Int) + 1)] w fun e w' => e = .returned (.slice (some ⟨g, 0, none⟩) (n - 1) c) ∧ Kd.R k149 149 w' base ok (.slice (some ⟨g, 0, none⟩) (n - 1) c) (xs.eraseIdx i) ∧ Kept w w' (fun k => k = g) ∧ (∀ B, B ≤ g → B ≤ w.heap.size → Below B w w') := by
 obtain ⟨hn, hnc, _⟩ := Kd.R_reads' hr
 have hcm : c ≤ 9223372036854775807 := row_cap hr
 have hgb : base ≤ g := Kd.R_base hr g (by simp [Value.ownBlock])
 have hgl : g < w.heap.size := Kd.R_lt hr g (by simp [Value.ownBlock])
 have HR := am hr
 have HG := am (And.intro hgb (And.intro hgl (And.intro hb hn)))
 have hic : (i : Int) < n := by omega
 have hic2 : i ≤ c := by omega
 have hjc2 : i + 1 ≤ c := by omega
 have hjc3 : i + 1 ≤ n := by omega
 have hj0 : (0 : Int) ≤ (i : Int) + 1 := by omega
 have hj1 : (i : Int) + 1 ≤ n := by omega
 have hwr : IntKind.i64.wrap ((i : Int) + 1) = (i : Int) + 1 := by rw [IntKind.wrap_i64]; omega
 have hne : ¬ ((i : Int) = (i : Int) + 1) := by omega
 have htn : ((i : Int) + 1).toNat = i + 1 := by omega
 have hz := Tryz.zeroValue149
 have hut := Tryz.underlying93
 clear hr hgb hgl hb hn
 go_enter Tryz.func180, Tryz.ntmps180
 go_wp2_with fail
 go_region_law (refine Kd.R_delete_step k149 (w0 := w) base (by rfl) (.tmp 22) (.tmp 25) 93 149 rfl Tryz.underlying93 (by kernel_rfl) (m := n - (i + 1)) (c2 := c - (i + 1)) (A := if c = i + 1 then some ⟨g, 0, none⟩ else some ⟨g, (i + 1) * 2, none⟩) (by simp [Act.eval, Act.put]) (by simp [Act.eval, Act.put]) ?hA rfl HR.out hi ?hB ?hb ?_; (case hA => exact cut_at g c (i + 1) 2 _ (by omega)); (case hB => exact (Below.refl _ _).drew); (case hb => exact HG.out.2.2.1); intro w1 h1 h2 h3)
 have hcell := row_cells h1
 obtain ⟨cs, hcl, hcr⟩ := run_clear_sz w1 93 149 (.agg #[.string ⟨#[]⟩, .string ⟨#[]⟩]) Tryz.underlying93 hz (by simp [Value.cells, Value.oneCell']) g ((n - 1) * 2) 1 (by omega) (fun j hj => (hcell _ (by simp [Value.cells] at hj; show _ < c * 2; omega)).1) (fun j hj => (hcell _ (by simp [Value.cells] at hj; show _ < c * 2; omega)).2)
 have HR2 := am (row_spare h1 ((n - 1) * 2) cs (by show (n - 1) * 2 ≤ (n - 1) * 2; omega) (by rw [hcl]; simp [Value.cells]; show _ ≤ c * 2; omega))
 have HK := am (And.intro ((Kept.of_grown h3 (Kept.of_below (show Below w.heap.size w w.drew from (Below.refl _ _).drew) (fun k => k = g)) (fun k hk => by injection hk with hk; exact .inl hk.symm)).then_ (setCells_kept w1 g ((n - 1) * 2) cs) (fun k hk => .inl hk)) (fun B (h1 : B ≤ g) (h2' : B ≤ w.heap.size) => (((Below.refl B w).drew).grown h3 h2' (fun k hk => by injection hk with hk; omega)).trans (setCells_below w1 g ((n - 1) * 2) cs B h1 (by have := h3.size; exact Nat.le_trans h2' this))))
 have hn1 : n - 1 ≤ n := by omega
 have hn2 : n ≤ c := hnc
 have hn3 : ¬ (c = n - 1) := by omega
 have hn4 : (((n - 1 : Nat) : Int)) ≤ n := by omega
 have hn5 : n - (n - 1) = 1 := by omega
 clear hcell hcl h1 h2 h3 hj0 hj1 hne htn hwr hic hic2 hjc2 hjc3
 go_wp2
 all_goals (go_ret; first | exact ⟨rfl, HR2.out, HK.out⟩ | ((have h : c = i + 1 := by assumption); subst h; exact ⟨rfl, HR2.out, HK.out⟩))
end Go.Proofs.YthjgohbkpjhkeaaGreatDoor.Sl
set_option maxHeartbeats 4000000
set_option maxRecDepth 100000
namespace Go.Proofs.YthjgohbkpjhkeaaGreatDoor.Impl
open Go.RowKit Go.Proofs.YthjgohbkpjhkeaaGreatDoorW.PrintWords Go.Proofs.YthjgohbkpjhkeaaGreatDoorW.PrintLast Go.Proofs.YthjgohbkpjhkeaaGreatDoorW.PrintMore Go.Proofs.YthjgohbkpjhkeaaGreatDoor.PFnExactDo Go.Proofs.YthjgohbkpjhkeaaGreatDoor.MapLib Go.Proofs.YthjgohbkpjhkeaaGreatDoor.FireSpec Go.Proofs.YthjgohbkpjhkeaaGreatDoor.Tr Go.Proofs.YthjgohbkpjhkeaaGreatDoor.Fo
def withAttrs (n : S95) (xs : List S149) : S95 := ⟨n.f0, n.f1, n.f2, xs, n.f4, n.f5⟩
theorem drop_do (w : World) (g : Nat) (ns : List S95) (bs : List Nat) (C : Chg) (A : Option Addr) (c : Nat) (hg : GMap w g ns bs) (hl : bs.length = ns.length) (hd : (ns.map (·.f0)).Nodup) (j : Nat) (hp : place ns C.f1 = some j) (n : S95) (A1 : Option Addr) (c1 : Nat) (kv1 up1 : Value) (pl1 : Int) (ht : TwigB w (bs.getD j 0) n A1 c1 kv1 up1 pl1) (ha : AttrsAt w A1 c1 n.f3) (i : Nat) (hi : idxA C.f4 n.f3 = some i) (hil : i < n.f3.length) :
  Calls Tryz.prog 178 #[chv C A c, .pointer (some ⟨g, 0, none⟩)] w fun e w' => e = .returned (chv ⟨4, C.f1, 0, 0, C.f4, n.f3[i].f1, i, []⟩ none 0) ∧ ∃ A' c', AttrsAt w' A' c' (n.f3.eraseIdx i) ∧ Only w w' (bs.getD j 0) (twigCells (withAttrs n (n.f3.eraseIdx i)) A' c' kv1 up1 pl1) 99 := by
 have hut := Tryz.underlying33
 have hua := Tryz.underlying149
 have HL := am (And.intro hl hd)
 have HG := am hg
 have HLK := am (show lkv ns bs C.f1 = .pointer (some ⟨bs.getD j 0, 0, none⟩) by unfold lkv; rw [hp]; rfl)
 have HTW := am ht
 have HA := am ha
 have HAT := am (fun W (hb : Below w.heap.size w W) => (attrAt_calls n.f3 A1 c1 W (ha.below hb).2.2 (by have := ha.1; omega) C.f4).mono (fun e w' h => (⟨by rw [h.1, hi]; rfl, h.2⟩ : e = .returned (.int .i64 (i : Int)) ∧ Below W.heap.size W w')))
 obtain ⟨av, hav⟩ : ∃ av, av = n.f3[i].f1 := ⟨_, rfl⟩
 rw [← hav]
 have HAV := am hav
 clear hav
 obtain ⟨bj, hbj⟩ : ∃ bj, bj = bs.getD j 0 := ⟨_, rfl⟩
 rw [← hbj] at HTW HLK ⊢
 clear hg hl hd hp ht hbj ha hi
 go_enter Tryz.func178, Tryz.ntmps178
 go_wp2_with fail
 generalize hw1 : World.alloc _ _ = w1
 have h1 : Below w.heap.size w w1 ∧ w1.heap[w.heap.size]? = some (mbox8 C A c 163) ∧ w1.heap[w.heap.size + 1]? = some (mbox8 ⟨0, 0, 0, 0, ⟨#[]⟩, ⟨#[]⟩, 0, []⟩ none 0 33) ∧ w1.heap.size = w.heap.size + 2 := by
  subst hw1
  refine ⟨((Below.refl _ w).alloc (Nat.le_refl _) _).alloc (by simp) _, blk_below (blk_newest w _) ((Below.refl _ _).alloc (Nat.le_refl _) _), ?_, by simp⟩
  have := blk_newest (w.alloc (mbox8 C A c 163)) (mbox8 ⟨0, 0, 0, 0, ⟨#[]⟩, ⟨#[]⟩, 0, []⟩ none 0 33)
  exact (congrArg (fun k => ((w.alloc (mbox8 C A c 163)).alloc (mbox8 ⟨0, 0, 0, 0, ⟨#[]⟩, ⟨#[]⟩, 0, []⟩ none 0 33)).heap[k]?) (by simp : (w.alloc (mbox8 C A c 163)).heap.size = w.heap.size + 1)).symm.trans this
 have H1 := am h1
 obtain ⟨x0, x1, x2, x3, x4, x5, x6, x7⟩ := cells8t h1.2.1
 obtain ⟨mb, _, hm, hq⟩ := (HG.out.below h1.1).look HL.out HLK.out
 clear h1 hw1
 go_quiet (fail)
 obtain ⟨w2, hw2⟩ : ∃ w2, w2 = w1.drewN nq := ⟨_, rfl⟩
 have H2 := am (show Below w.heap.size w w2 ∧ w2.heap = w1.heap from ⟨hw2 ▸ pw_below_drewN H1.out.1 _, hw2 ▸ rfl⟩)
 rw [← hw2]
 clear x0 x1 x2 x3 x4 x5 x6 x7 hm hq hw2
 obtain ⟨x0, x1, x2, x3, x4, x5, x6, x7⟩ := cells8t (W := w2) (b := w.heap.size) (by rw [H2.out.2]; exact H1.out.2.1)
 have ht3 : w2.cell? ⟨bj, 3, none⟩ = some (.slice A1 n.f3.length c1) := blk_cell (blk_below HTW.out H2.out.1) 3
 go_wp2_with fail
 go_still_tail 7, (by kernel_rfl)
 change wpList _ _ _ _ _ w2.drew
 have HBD := am (show Below w.heap.size w w2.drew ∧ w2.drew.heap = w1.heap from ⟨H2.out.1.drew, H2.out.2⟩)
 go_wp2_with (first | (go_at_call 169; refine (HAT.out _ HBD.out.1).mono ?_; rintro e w3 ⟨rfl, hb3⟩; have H3 := am hb3; clear hb3 x0 x1 x2 x3 x4 x5 x6 x7 ht3))
 have HB3 := am (below_step HBD.out.1 H3.out)
 have HX3 := am (show w3.heap[w.heap.size]? = some (mbox8 C A c 163) from blk_below (by rw [HBD.out.2]; exact H1.out.2.1) H3.out)
 have HR3 := am (show w3.heap[w.heap.size + 1]? = some (mbox8 ⟨0, 0, 0, 0, ⟨#[]⟩, ⟨#[]⟩, 0, []⟩ none 0 33) from blk_below (by rw [HBD.out.2]; exact H1.out.2.2.1) H3.out)
 have HT3 := am (blk_below HTW.out HB3.out)
 obtain ⟨ad, e, ha0, ha1⟩ := at_T149 (HA.out.below HB3.out).2.2 (i : Int) (by omega) (by omega)
 cases e
 have hrd : rd_T149 n.f3 (i : Int) = n.f3[i] := by simp [rd_T149, hil]
 rw [hrd] at ha0 ha1
 simp only [Int.toNat_natCast] at ha0 ha1
 rw [← HAV.out] at ha1
 obtain ⟨x0, x1, x2, x3, x4, x5, x6, x7⟩ := cells8t HX3.out
 have ht3 : w3.cell? ⟨bj, 3, none⟩ = some (.slice (some ad) n.f3.length c1) := blk_cell HT3.out 3
 have hal : Below w3.heap.size w3 (w3.alloc (.cells #[.int .i64 0, .int .i64 0, .int .i64 0, .int .i64 0, .string ⟨#[]⟩, .string ⟨#[]⟩, .int .i64 0, .slice none 0 0] 33)) := (Below.refl _ w3).alloc (Nat.le_refl _) _
 have y1 := pw_cell_below hal x1
 have y4 := pw_cell_below hal x4
 have y3 := pw_cell_below hal ht3
 have ya := pw_cell_below hal ha1
 have hi1 : (0 : Int) ≤ (i : Int) := by omega
 have hi2 : (i : Int) < (n.f3.length : Int) := by omega
 clear hrd ha0 x0 x2 x3 x5 x6 x7 hal
 go_region
 generalize hw4 : World.drew (World.alloc _ _) = w4
 have h4 : Below w3.heap.size w3 w4 ∧ w4.heap[w3.heap.size]? = some (mbox8 ⟨4, C.f1, 0, 0, C.f4, av, i, []⟩ none 0 33) := by
  subst hw4
  exact ⟨((Below.refl _ w3).alloc (Nat.le_refl _) _).drew, blk_newest w3 (mbox8 ⟨4, C.f1, 0, 0, C.f4, av, i, []⟩ none 0 33)⟩
 obtain ⟨bc, hbc⟩ : ∃ bc, bc = w3.heap.size := ⟨_, rfl⟩
 have hbl := blk_lt HTW.out
 have hsz : w.heap.size + 2 ≤ w3.heap.size := blk_lt HR3.out
 have H4 := am (show Below w.heap.size w w4 ∧ w4.heap[w.heap.size + 1]? = some (mbox8 ⟨0, 0, 0, 0, ⟨#[]⟩, ⟨#[]⟩, 0, []⟩ none 0 33) ∧ w4.heap[bc]? = some (mbox8 ⟨4, C.f1, 0, 0, C.f4, av, i, []⟩ none 0 33) ∧ TwigB w4 bj n (some ad) c1 kv1 up1 pl1 ∧ bj < w.heap.size ∧ w.heap.size + 2 ≤ bc from
  ⟨below_step HB3.out h4.1, blk_below HR3.out h4.1, hbc ▸ h4.2, blk_below HT3.out h4.1, hbl, hbc ▸ hsz⟩)
 have ht3 : w4.cell? ⟨bj, 3, none⟩ = some (.slice (some ad) n.f3.length c1) := blk_cell H4.out.2.2.2.1 3
 rw [← hbc]
 clear x1 x4 y1 y4 y3 ya hw4 h4 hbl hsz hbc ha1
 have HCL := am (clone_calls (some ad) c1 n.f3 w4 (HA.out.below H4.out.1).2.2 HA.out.2.1 (fun e => by cases e) HA.out.1)
 obtain ⟨big, hbig⟩ : ∃ big : Int, big = 1000000000 := ⟨_, rfl⟩
 have hib : (i : Int) < big := by have := HA.out.1; omega
 have hbig2 : big ≤ 4611686018427387904 := by omega
 clear hbig
 go_wp2_with (first | ((with_reducible refine gate_store (t := 93) (p := 53) rfl ?_); refine store_event (t := 93) (p := 53) (v := ?vo) (w1 := w6.setCell ⟨bj, 3, none⟩ (.slice (some ⟨g5, 0, none⟩) (n.f3.length - 1) c5)) ?hg ?ho ?hn ?hr ?_; (case ho => rfl); (case hg => rfl); (case hn => rfl); (case hr => first | (go_simp; done) | (go_simp; rfl)); intro w7 hw7; have H7 := am (set_block hw7 HT6.out); clear hw7 ht6 htf6; obtain ⟨y0, y1, y2, y3, y4, y5, y6, y7⟩ := cells8t ((H7.out.2.1 bc (by have := H4.out; omega)).trans HC6.out); have HR7 := am ((H7.out.2.1 (w.heap.size + 1) (by have := H4.out; omega)).trans HR6.out); obtain ⟨z0, z1, z2, z3, z4, z5, z6, z7⟩ := cells8t HR7.out; have hzf := fun k => blk_frozen HR7.out k) | (go_at_call 180; refine (Sl.delA_calls w5 w4.heap.size _ g5 n.f3.length c5 i n.f3 H5.out.2 hil H5.out.1.size).mono ?_; rintro e w6 ⟨rfl, hr6, hk6, hb6⟩; have H6 := am (And.intro hr6 (And.intro hk6 hb6)); have hg5 : w4.heap.size ≤ g5 := Kd.R_base H5.out.2 g5 (by simp [Value.ownBlock]); have K6 := am (fun k (hk : k < w4.heap.size) => (hk6.2 k (by have := H5.out.1.size; omega) (by omega)).trans (H5.out.1.block k hk)); have HT6 := am ((K6.out bj (blk_lt H4.out.2.2.2.1)).trans H4.out.2.2.2.1); have HC6 := am ((K6.out bc (blk_lt H4.out.2.2.1)).trans H4.out.2.2.1); have HR6 := am ((K6.out (w.heap.size + 1) (blk_lt H4.out.2.1)).trans H4.out.2.1); have ht6 := (twig_cells HT6.out).1.2.2.2.1; have htf6 := blk_frozen HT6.out 3; have HG5 := am hg5; clear hr6 hk6 hb6 hg5 ht3) | (go_at_call 111; refine HCL.out.mono ?_; rintro e w5 ⟨v5, rfl, hr5, hb5⟩; obtain ⟨A5, c5, rfl⟩ := Kd.R_slice hr5; obtain ⟨g5, cap5, e5, _⟩ := Kd.R_form hr5 (by omega); injection e5 with e6 _ e7; subst e6; subst e7; have H5 := am (And.intro hb5 hr5); clear hb5 hr5))
 generalize hw8 : World.setCell _ _ _ = w8
 have h8 := set8 (C := ⟨4, C.f1, 0, 0, C.f4, av, i, []⟩) (A := none) (c := 0) HR7.out hw8.symm
 clear hw8 y0 y1 y2 y3 y4 y5 y6 y7 z0 z1 z2 z3 z4 z5 z6 z7 hzf
 obtain ⟨z0, z1, z2, z3, z4, z5, z6, z7⟩ := cells8t h8.1
 refine bodyPost_ret (v := chv ⟨4, C.f1, 0, 0, C.f4, av, i, []⟩ none 0) (by simp [results, Tryz.results178, go_sem, z0, z1, z2, z3, z4, z5, z6, z7, hut]) rfl ⟨rfl, some ⟨g5, 0, none⟩, c5, ?_, ?_⟩
 ·have H := H4.out
  have hlt := blk_lt H.2.2.1
  have h9 := Kd.R_reads' (Kd.R_move (Kd.R_bound H6.out.1) (w1 := w8) (fun k hk => (h8.2.1 k (fun e => by have h1 := hk.2.1; omega)).trans (H7.out.2.1 k (fun e => by have h1 := hk.2.1; omega))))
  have hle : (n.f3.eraseIdx i).length = n.f3.length - 1 := by rw [List.length_eraseIdx]; simp [hil]
  refine ⟨by have := HA.out.1; omega, by have := h9.2.1; omega, ?_⟩
  exact h9.2.2
 ·have H := H4.out
  have hle : (n.f3.eraseIdx i).length = n.f3.length - 1 := by rw [List.length_eraseIdx]; simp [hil]
  have hs1 := H.1.size
  have hs2 := H5.out.1.size
  have hs3 := H6.out.2.1.1
  refine ⟨by rw [h8.2.2.1, H7.out.2.2.1]; omega, fun k hk hkb => ?_, ?_, fun B hB hB2 => ?_⟩
  ·rw [h8.2.1 k (by omega), H7.out.2.1 k hkb, K6.out k (by omega)]
   exact H.1.block k hk
  ·refine (h8.2.1 bj (by omega)).trans (H7.out.1.trans ?_)
   unfold twigCells withAttrs
   rw [hle]
   rfl
  ·have hB4 : Below B w w4 := H.1.mono hB2
   have hB5 := hB4.trans (H5.out.1.mono (Nat.le_trans hB2 hs1))
   have hB6 := hB5.trans (H6.out.2.2 B (by have := HG5.out; omega) (by omega))
   exact h8.2.2.2 _ _ (H7.out.2.2.2 _ _ hB6 hB) (by omega)
end Go.Proofs.YthjgohbkpjhkeaaGreatDoor.Impl
set_option maxHeartbeats 4000000
set_option maxRecDepth 100000
namespace Go.Proofs.YthjgohbkpjhkeaaGreatDoor.Impl
open Go.RowKit Go.Proofs.YthjgohbkpjhkeaaGreatDoorW.PrintWords Go.Proofs.YthjgohbkpjhkeaaGreatDoorW.PrintLast Go.Proofs.YthjgohbkpjhkeaaGreatDoorW.PrintMore Go.Proofs.YthjgohbkpjhkeaaGreatDoor.PFnExactDo Go.Proofs.YthjgohbkpjhkeaaGreatDoor.MapLib Go.Proofs.YthjgohbkpjhkeaaGreatDoor.FireSpec Go.Proofs.YthjgohbkpjhkeaaGreatDoor.Tr Go.Proofs.YthjgohbkpjhkeaaGreatDoor.Fo
theorem after_calls (w : World) (base b pb i : Nat) (n n2 : S95) (A A2 : Option Addr) (c c2 : Nat) (kv kv2 up2 : Value) (pl2 : Int) (bs : List Nat) (hx : TwigB w b n A c kv (ptr pb) (i : Int)) (hp : TwigB w pb n2 A2 c2 kv2 up2 pl2) (hrow : PtrRow w base kv2 bs) (hi : i < bs.length) (hn : bs.length ≤ 1000000000)
  (nid : Int) (hnx : i + 1 < bs.length → ∃ n A c kv up pl, TwigB w (bs.getD (i + 1) 0) n A c kv up pl ∧ n.f0 = nid) :
  Calls Tryz.prog 161 #[ptr b] w fun e w' => e = .returned (.int .i64 (if i + 1 < bs.length then nid else -1)) ∧ ∃ m, w' = w.drewN m := by
 have huw := Tryz.underlying99
 have hun := Tryz.underlying95
 obtain ⟨g, ck, rfl, hg⟩ := Kd.R_form hrow (by omega)
 obtain ⟨_, _, hx7, hx8, _⟩ := twig_cells hx
 obtain ⟨_, hp6, _, _, _⟩ := twig_cells hp
 have hi1 : IntKind.i64.wrap ((i : Int) + 1) = (i : Int) + 1 := by rw [IntKind.wrap_i64]; omega
 have hi2 : (0 : Int) ≤ (i : Int) + 1 := by omega
 have hi3 : ((i : Int) + 1).toNat = i + 1 := by omega
 have hn' : (bs.length : Int) ≤ 1000000000 := by omega
 by_cases h : i + 1 < bs.length
 ·obtain ⟨n3, A3, c3, kv3, up3, pl3, h3, h3n⟩ := hnx h
  obtain ⟨⟨h30, _⟩, _⟩ := twig_cells h3
  have hcell := (Kd.R_cell (0 : Nat) hrow ((i : Int) + 1) (by omega) (by omega)).1
  have hyb : rdOf 0 bs ((i : Int) + 1) = bs.getD (i + 1) 0 := by unfold rdOf; rw [hi3]
  rw [hyb, hi3] at hcell
  obtain ⟨kb, hkb⟩ : ∃ kb, kb = bs.getD (i + 1) 0 := ⟨_, rfl⟩
  rw [← hkb] at hcell h30
  rw [h3n] at h30
  have hd : decide ((i : Int) + 1 < (bs.length : Int)) = true := decide_eq_true (by omega)
  have hl1 : (i : Int) + 1 < (bs.length : Int) := by omega
  rw [if_pos h]
  clear hx hp hrow hkb h3 h3n hyb hnx hn hg
  unfold ptr at *
  go_enter Tryz.func161, Tryz.ntmps161
  go_wp2
  go_quiet (fail)
  go_wp2
  go_quiet (fail)
  go_wp2
  go_ret
  exact ⟨rfl, _, by first | rfl | (rw [World.drewN_drewN])⟩
 ·have hd : decide ((i : Int) + 1 < (bs.length : Int)) = false := decide_eq_false (by omega)
  rw [if_neg h]
  clear hx hp hrow hnx hn hg
  unfold ptr at *
  go_enter Tryz.func161, Tryz.ntmps161
  go_wp2
  go_quiet (fail)
  go_wp2
  go_ret
  exact ⟨rfl, _, by first | rfl | (rw [World.drewN_drewN])⟩
end Go.Proofs.YthjgohbkpjhkeaaGreatDoor.Impl
