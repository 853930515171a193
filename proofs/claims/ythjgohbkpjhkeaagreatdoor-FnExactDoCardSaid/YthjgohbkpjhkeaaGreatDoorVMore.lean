/- Cut by a program (shake2.py) out of what print.sh wrote for this law: what the proof needs of it. -/
import Derived.Test.YthjgohbkpjhkeaaGreatDoorVWords
import Derived.Test.YthjgohbkpjhkeaaGreatDoorVLast
import Derived.Test.YthjgohbkpjhkeaaGreatDoorVApart
import Derived.Test.YthjgohbkpjhkeaaGreatDoorVFoot
import Derived.Test.YthjgohbkpjhkeaaGreatDoorVKept
import Derived.Test.YthjgohbkpjhkeaaGreatDoorVNEv
namespace Go.Proofs.YthjgohbkpjhkeaaGreatDoorW.PrintMore
open Go.RowKit Go.Proofs.YthjgohbkpjhkeaaGreatDoorW.PrintWords
namespace Kd
end Kd
namespace Kd
end Kd
end Go.Proofs.YthjgohbkpjhkeaaGreatDoorW.PrintMore
namespace Go.Proofs.YthjgohbkpjhkeaaGreatDoorW.PrintWords
open Go.RowKit
section
variable {P : Program} {ops : Array Oper} {rest : List Oper} {o : Oper} {a : Act} {Q : Exit → Act → World → Prop} {W : World}
theorem gate_builtin {b : Builtin} {xs : Array Operand} {ts : Array TypeId} (_ho : o.op = .call { callee := .builtin b, args := xs, argTypes := ts }) (h : wpList P ops Q (o :: rest) a W) : wpList P ops Q (o :: rest) a W := h
end
namespace Kd
section
variable {α : Type} {d : Kd α} {e base g n cap : Nat} {ok oki okp : Nat → Prop} {W : World} {xs : List α} {i : Int} {c : List Value}
theorem H_at (h : H d e W base ok (.slice (some ⟨g, 0, none⟩) n cap) xs i oki c) (h0 : 0 ≤ i) (h1 : i < n) : (∀ j u, c[j]? = some u → W.cell? ⟨g, i.toNat * d.sz + j, none⟩ = some u) ∧ ∀ j, W.frozen? ⟨g, i.toNat * d.sz + j, none⟩ = false := by
 obtain ⟨rows, _, hraw, _, _, hcc, _⟩ := H_raw h h0 h1
 obtain ⟨_, _, _, _, hfr⟩ := R_elem hraw [] i h0 h1
 exact ⟨hcc, hfr⟩
end
end Kd
end Go.Proofs.YthjgohbkpjhkeaaGreatDoorW.PrintWords
namespace Go.Proofs.YthjgohbkpjhkeaaGreatDoorW.PrintWords
open Go.RowKit
namespace Kd
section
variable {α β : Type} {d : Kd α} {e base base' n m c g N' lo hi : Nat} {ok ok' S : Nat → Prop} {w W w1 : World} {A : Option Addr} {ad : Addr} {u v v1 : Value} {xs : List α}
theorem F_cut (h : F d W ok A xs.length xs) (hm : m ≤ xs.length) (hc : xs.length ≤ c) : F d W ok (if c = m then A else A.map (·.add (m * d.sz))) (xs.drop m).length (xs.drop m) := F_imp h (fun _ hC => C_drop hC hm hc)
end
end Kd
end Go.Proofs.YthjgohbkpjhkeaaGreatDoorW.PrintWords
