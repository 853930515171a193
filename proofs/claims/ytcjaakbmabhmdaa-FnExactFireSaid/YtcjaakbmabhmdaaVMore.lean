/- Cut by a program (shake.py) out of what print.sh wrote for this law: what the row needs of it. -/
import Derived.Test.YtcjaakbmabhmdaaVWords
import Derived.Test.YtcjaakbmabhmdaaVLast
import Derived.Test.YtcjaakbmabhmdaaVApart
import Derived.Test.YtcjaakbmabhmdaaVKept
namespace Go.Proofs.YtcjaakbmabhmdaaW.PrintMore
open Go.RowKit Go.Proofs.YtcjaakbmabhmdaaW.PrintWords
namespace Kd
end Kd
namespace Kd
end Kd
end Go.Proofs.YtcjaakbmabhmdaaW.PrintMore
namespace Go.Proofs.YtcjaakbmabhmdaaW.PrintWords
open Go.RowKit
section
variable {P : Program} {ops : Array Oper} {rest : List Oper} {o : Oper} {a : Act} {Q : Exit → Act → World → Prop} {W : World}
/-- The operation is a call of this function (a cheap look ahead of a dear step). -/
theorem gate_callee {f : FuncId} {as : Array Operand} {ts : Array TypeId} (_ho : o.op = .call { callee := .value (.func f), args := as, argTypes := ts }) (h : wpList P ops Q (o :: rest) a W) : wpList P ops Q (o :: rest) a W := h
/-- The operation is a builtin over these places. -/
theorem gate_builtin {b : Builtin} {xs : Array Operand} {ts : Array TypeId} (_ho : o.op = .call { callee := .builtin b, args := xs, argTypes := ts }) (h : wpList P ops Q (o :: rest) a W) : wpList P ops Q (o :: rest) a W := h
end
namespace Kd
end Kd
end Go.Proofs.YtcjaakbmabhmdaaW.PrintWords
namespace Go.Proofs.YtcjaakbmabhmdaaW.PrintWords
open Go.RowKit
namespace Kd
end Kd
end Go.Proofs.YtcjaakbmabhmdaaW.PrintWords
