/- Cut by a program (shake2.py) out of what print.sh wrote for this law: what the proof needs of it. -/
import Derived.Test.YtnjnoabldjodcaaDoorVTab
namespace Go.Proofs.YtnjnoabldjodcaaDoorW.PrintLast
def up (b : Nat → Bool) (i : Nat) : Nat → Bool := fun j => if j = i then true else b j
end Go.Proofs.YtnjnoabldjodcaaDoorW.PrintLast
