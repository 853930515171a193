/- Cut by a program (shake2.py) out of what print.sh wrote for this law: what the proof needs of it. -/
import Derived.Test.YthjgohbkpjhkeaaGreatDoorVLast
import Derived.Test.YthjgohbkpjhkeaaGreatDoorVWords
namespace Go.Proofs.YthjgohbkpjhkeaaGreatDoorW.PrintLast
def up (b : Nat → Bool) (i : Nat) : Nat → Bool := fun j => if j = i then true else b j
end Go.Proofs.YthjgohbkpjhkeaaGreatDoorW.PrintLast
