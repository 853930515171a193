/- Twigs in memory: one block each; a row of pointers; what a part of the tree that has been laid says of each of its nodes. -/
import Derived.Test.YtcjaakbmabhmdaaImplTree
namespace Go.Proofs.Ytcjaakbmabhmdaa.Impl
open Go.RowKit Go.Proofs.YtcjaakbmabhmdaaW.PrintWords Go.Proofs.YtcjaakbmabhmdaaW.PrintLast Go.Proofs.YtcjaakbmabhmdaaW.PrintMore Go.Proofs.Ytcjaakbmabhmdaa.PFnExactFire Go.Proofs.Ytcjaakbmabhmdaa.MapLib Go.Proofs.Ytcjaakbmabhmdaa.FireSpec Go.Proofs.Ytcjaakbmabhmdaa.Tr
set_option linter.unusedVariables false
set_option linter.unusedSimpArgs false

/-- What a store into a block leaves. -/
theorem set_block {w w1 : World} {g j : Nat} {v : Value} {cs : Array Value} {t : TypeId} (hw : w1 = w.setCell ⟨g, j, none⟩ v) (hb : w.heap[g]? = some (.cells cs t (0, 0))) :
    w1.heap[g]? = some (.cells (cs.setIfInBounds j v) t (0, 0)) ∧ (∀ k, k ≠ g → w1.heap[k]? = w.heap[k]?) ∧ w1.heap.size = w.heap.size ∧ ∀ B w0, Below B w0 w → B ≤ g → Below B w0 w1 := by
  subst hw
  have hg := blk_lt hb
  refine ⟨?_, fun k hk => Below.heap_setCell w ⟨g, j, none⟩ v k hk, by simp [World.setCell], fun B w0 h hB => h.setCell hB v⟩
  simp only [World.setCell, Array.getElem?_modify]
  rw [hb]
  simp
def ptr (b : Nat) : Value := .pointer (some ⟨b, 0, none⟩)
def ptrK : Kd Nat := Kd.scalar ptr (fun _ => rfl)
abbrev PtrRow (w : World) (base : Nat) (v : Value) (bs : List Nat) : Prop := ptrK.R 56 w base (fun _ => True) v bs
def twigCells (n : S52) (A : Option Addr) (c : Nat) (kv up : Value) (pl : Int) : Array Value :=
  #[.int .i64 n.f0, .int .i64 n.f1, .string n.f2, .slice A n.f3.length c, .string n.f4, .int .i64 n.f5, kv, up, .int .i64 pl]
/-- Block b is a twig: its node n (the attributes as they lay in w0), its kids' slice, the twig that it stands in, its place. -/
def Twig (w0 w : World) (b : Nat) (n : S52) (kv up : Value) (pl : Int) : Prop :=
  ∃ A c, n.f3.length ≤ c ∧ Kd.C k92 w0 A n.f3.length n.f3 ∧ w.heap[b]? = some (.cells (twigCells n A c kv up pl) 67 (0, 0))
def KidsAre (ks : List Nat) (bs : List Nat) (j : Nat) (kl : List Nat) : Prop :=
  kl.length = ks.getD j 0 ∧ ∀ i c, Kid ks j i c → kl[i]? = some (bs.getD c 0)
structure Laid (ns : List S52) (w0 w : World) (base : Nat) (bs : List Nat) (KV : Nat → Value) (lo p q : Nat) : Prop where
  twig : ∀ j, p ≤ j → j < q → ∃ up pl, Twig w0 w (bs.getD j 0) (ns.getD j z52) (KV j) up pl ∧ ∀ P i, lo ≤ P → Kid (kids ns) P i j → up = ptr (bs.getD P 0) ∧ pl = (i : Int)
  row : ∀ j, p ≤ j → j < q → ∃ kl, PtrRow w base (KV j) kl ∧ KidsAre (kids ns) bs j kl
  apart : ∀ j j', p ≤ j → j < q → p ≤ j' → j' < q → j ≠ j' → (KV j).ownBlock = none ∨ (KV j).ownBlock ≠ (KV j').ownBlock

section
variable {ns : List S52} {w0 w w1 : World} {base : Nat} {bs bs' : List Nat} {KV KV' : Nat → Value} {lo p q : Nat} {b : Nat} {n : S52} {kv up : Value} {pl : Int}
theorem Twig.keep (h : Twig w0 w b n kv up pl) (hb : w1.heap[b]? = w.heap[b]?) : Twig w0 w1 b n kv up pl := by
  obtain ⟨A, c, h1, h2, h3⟩ := h
  exact ⟨A, c, h1, h2, hb.trans h3⟩
theorem Twig.lt (h : Twig w0 w b n kv up pl) : b < w.heap.size := by
  obtain ⟨A, c, h1, h2, h3⟩ := h
  exact blk_lt h3
theorem row_keep {v : Value} {kl : List Nat} (h : PtrRow w base v kl) (hm : ∀ k, v.ownBlock = some k → w1.heap[k]? = w.heap[k]?) : PtrRow w1 base v kl := by
  have h2 := Kd.R_tight rfl h
  exact Kd.R_mono (Kd.R_move h2 (fun k hk => hm k hk.symm)) (fun _ _ => trivial)
theorem row_typed {v : Value} {kl : List Nat} (h : PtrRow w base v kl) (k : Nat) (hk : v.ownBlock = some k) : ∃ cells, w.heap[k]? = some (.cells cells 56 (0, 0)) := by
  obtain ⟨inner, ho⟩ := Kd.R_own h
  exact own_typed ho k hk
theorem row_base {v : Value} {kl : List Nat} (h : PtrRow w base v kl) (k : Nat) (hk : v.ownBlock = some k) : base ≤ k ∧ k < w.heap.size := by
  obtain ⟨inner, ho⟩ := Kd.R_own h
  exact ⟨own_base ho k hk, own_lt ho k hk⟩
/-- A twig's block is no row's. -/
theorem Twig.ne_row (h : Twig w0 w b n kv up pl) {v : Value} {kl : List Nat} (hr : PtrRow w base v kl) : some b ≠ v.ownBlock := by
  intro e
  obtain ⟨A, c, h1, h2, h3⟩ := h
  obtain ⟨cells, hc⟩ := row_typed hr b e.symm
  rw [h3] at hc
  injection hc with hc
  injection hc with _ hc
  revert hc
  decide
theorem Twig.ne_typed (h : Twig w0 w b n kv up pl) {g t : Nat} {cs : Array Value} (hg : w.heap[g]? = some (.cells cs t (0, 0))) (ht : t ≠ 67) : b ≠ g := by
  intro e
  obtain ⟨A, c, h1, h2, h3⟩ := h
  rw [e, hg] at h3
  injection h3 with h3
  injection h3 with _ h3
  exact ht h3
theorem row_ne_typed {v : Value} {kl : List Nat} (hr : PtrRow w base v kl) {g t : Nat} {cs : Array Value} (hg : w.heap[g]? = some (.cells cs t (0, 0))) (ht : t ≠ 56) : some g ≠ v.ownBlock := by
  intro e
  obtain ⟨cells, hc⟩ := row_typed hr g e.symm
  rw [hg] at hc
  injection hc with hc
  injection hc with _ hc
  exact ht hc
/-- Whatever leaves the twigs' blocks and the kids' rows leaves what has been laid. -/
theorem Laid.keep (h : Laid ns w0 w base bs KV lo p q) (h1 : ∀ j, p ≤ j → j < q → w1.heap[bs.getD j 0]? = w.heap[bs.getD j 0]?) (h2 : ∀ j, p ≤ j → j < q → ∀ k, (KV j).ownBlock = some k → w1.heap[k]? = w.heap[k]?) :
    Laid ns w0 w1 base bs KV lo p q where
  twig := fun j a c => by
    obtain ⟨up, pl, ht, hp⟩ := h.twig j a c
    exact ⟨up, pl, ht.keep (h1 j a c), hp⟩
  row := fun j a c => by
    obtain ⟨kl, hr, hk⟩ := h.row j a c
    exact ⟨kl, row_keep hr (h2 j a c), hk⟩
  apart := h.apart
theorem Laid.below (h : Laid ns w0 w base bs KV lo p q) (hb : Below w.heap.size w w1) : Laid ns w0 w1 base bs KV lo p q :=
  h.keep (fun j a c => by obtain ⟨up, pl, ht, _⟩ := h.twig j a c; exact hb.block _ ht.lt) (fun j a c k hk => by obtain ⟨kl, hr, _⟩ := h.row j a c; exact hb.block k (row_base hr k hk).2)
theorem Laid.mem (h : Laid ns w0 w base bs KV lo p q) (h1 : ∀ k, k < w.heap.size → ((∃ j, p ≤ j ∧ j < q ∧ (k = bs.getD j 0 ∨ (KV j).ownBlock = some k)) → w1.heap[k]? = w.heap[k]?)) : Laid ns w0 w1 base bs KV lo p q :=
  h.keep (fun j a c => by obtain ⟨up, pl, ht, _⟩ := h.twig j a c; exact h1 _ ht.lt ⟨j, a, c, .inl rfl⟩) (fun j a c k hk => by obtain ⟨kl, hr, _⟩ := h.row j a c; exact h1 k (row_base hr k hk).2 ⟨j, a, c, .inr hk⟩)
/-- More blocks behind. -/
theorem Laid.more (h : Laid ns w0 w base bs KV lo p q) (hq : q ≤ bs.length) (hk : ∀ j, p ≤ j → j < q → ∀ i c, Kid (kids ns) j i c → c < q) (hP : ∀ j, p ≤ j → j < q → ∀ P i, Kid (kids ns) P i j → P < bs.length) (new : List Nat) : Laid ns w0 w base (bs ++ new) KV lo p q := by
  have e : ∀ j, j < bs.length → (bs ++ new).getD j 0 = bs.getD j 0 := fun j hj => by
    rw [List.getD_eq_getElem?_getD, List.getD_eq_getElem?_getD, List.getElem?_append_left hj]
  refine ⟨fun j a c => ?_, fun j a c => ?_, h.apart⟩
  · obtain ⟨up, pl, ht, hp⟩ := h.twig j a c
    refine ⟨up, pl, by rw [e j (by omega)]; exact ht, fun P i hl hK => ?_⟩
    rw [e P (hP j a c P i hK)]
    exact hp P i hl hK
  · obtain ⟨kl, hr, hl, hkk⟩ := h.row j a c
    refine ⟨kl, hr, hl, fun i c2 hK => ?_⟩
    rw [e c2 (by have := hk j a c i c2 hK; omega)]
    exact hkk i c2 hK
end
end Go.Proofs.Ytcjaakbmabhmdaa.Impl
