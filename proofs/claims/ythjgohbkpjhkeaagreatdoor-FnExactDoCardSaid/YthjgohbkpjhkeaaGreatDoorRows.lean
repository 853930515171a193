/-
  NARROWER THAN 'FOR EVERY INPUT', by the rows' own cells (each row's printed sentence says how): FnExactDo: laid · FnExactUndo: laid · FnExactLiveMove: laid · FnExactScript: laid · FnExactRangeMove: laid.
  DERIVED. THE GIVEN ROWS OF THIS SEAT. 5 by the template 'for every input the law returns true; each argument reads behind the call as it read before'; 0 by the template 'total and deterministic' (their statements: YthjgohbkpjhkeaaGreatDoorTotals.lean).
  GIVEN WITH THE SEED: the statements are not yours to turn. If you find one false, say at which input.
  Laid BY PROGRAM, IN A SANDBOX (cutbox-rows.mjs): the forced cells as the released guide's own fill.sh prints them over the translation 05b9275fc718bb09… (all of the seat's roots in one cut). By AI agents, Wed Nov 11 2026. No macro, syntax, notation, axiom, sorry.
-/
import Derived.Test.YthjgohbkpjhkeaaGreatDoorChecked
import GoSem.Claim
import GoSem.ClaimJoined
import GoSem.ClaimMapViews
import Derived.JoinedTies
import Derived.KernelRfl
namespace Go.Proofs.YthjgohbkpjhkeaaGreatDoor
/- THE CELL 'sum', in the pinned program and in every row, IS THE sha256 OF THE DUMP (.gsa) THAT YthjgohbkpjhkeaaGreatDoorProg.lean LOADS. Nothing in Lean hashes anything: it is a label: what it is worth is what the hold of that sum in a sandbox is worth. -/
noncomputable def Tryz.pinned : Pinned := { name := "ythjgohbkpjhkeaagreatdoor", sum := "05b9275fc718bb095eb18011a5d79d7098deac9365379e8483a3d09f8d071405", checked := Tryz.checked }
namespace Rows
def none {H : Type} : Left H := { results := [], args := [] }

/- WHAT THE LISTED PACKAGE-LEVEL VARIABLES READ AS WHEN THE CALL BEGINS. Each datum BY PROGRAM (the guide's laid-datum.mjs) off the statement by which the dump's own 'gosem.cut.vars' lays the variable. In a bare row this is a premise. The card (YthjgohbkpjhkeaaGreatDoorCards.lean) ties it to the program's text. -/
def laid_errors_errorType {H : Type} : DataW H := .iface "internal/reflectlite.rtype" (.agg [.ptr (.lit (.string [101, 114, 114, 111, 114]))])

/-- 'laws.FnExactDo': WHATEVER THE INPUT: true; the input reads as it did. -/
def fnExactDoSpec : ChangeSpec := { name := "fnExactDo", fn := fun _ => fun
  | [d1, d2] => { results := [.lit (.bool true)], args := [d1, d2] }
  | _ => none }
def fnExactDoRow : OpenClaim := { program := "ythjgohbkpjhkeaagreatdoor", sum := "05b9275fc718bb095eb18011a5d79d7098deac9365379e8483a3d09f8d071405", func := "loop.example/g00011/laws.FnExactDo", spec := "fnExactDo", inPlace := ["internal/reflectlite.ValueOf", "(internal/reflectlite.Value).Type", "(internal/reflectlite.Value).IsNil", "internal/reflectlite.TypeOf", "(internal/reflectlite.Value).Elem", "(internal/reflectlite.Value).Set"], unfollowed := true, recurses := true, named := ["errors.errorType"], apart := false, laid := [("errors.errorType", laid_errors_errorType)] }
def FnExactDoSaid : Prop := fnExactDoRow.holds Tryz.pinned (OpenSpec.ofChange fnExactDoSpec)

/-- ITS FALSE NEIGHBOUR: 'it returns false'. Refute it at one input. -/
def fnExactDoWrong : ChangeSpec := { name := "fnExactDo", fn := fun _ => fun
  | [d1, d2] => { results := [.lit (.bool false)], args := [d1, d2] }
  | _ => none }
def FnExactDoWrongFalsely : Prop := fnExactDoRow.holds Tryz.pinned (OpenSpec.ofChange fnExactDoWrong)

/-- 'laws.FnExactUndo': WHATEVER THE INPUT: true; the input reads as it did. -/
def fnExactUndoSpec : ChangeSpec := { name := "fnExactUndo", fn := fun _ => fun
  | [d1, d2] => { results := [.lit (.bool true)], args := [d1, d2] }
  | _ => none }
def fnExactUndoRow : OpenClaim := { program := "ythjgohbkpjhkeaagreatdoor", sum := "05b9275fc718bb095eb18011a5d79d7098deac9365379e8483a3d09f8d071405", func := "loop.example/g00011/laws.FnExactUndo", spec := "fnExactUndo", inPlace := ["internal/reflectlite.ValueOf", "(internal/reflectlite.Value).Type", "(internal/reflectlite.Value).IsNil", "internal/reflectlite.TypeOf", "(internal/reflectlite.Value).Elem", "(internal/reflectlite.Value).Set"], unfollowed := true, recurses := true, named := ["errors.errorType"], apart := false, laid := [("errors.errorType", laid_errors_errorType)] }
def FnExactUndoSaid : Prop := fnExactUndoRow.holds Tryz.pinned (OpenSpec.ofChange fnExactUndoSpec)

/-- ITS FALSE NEIGHBOUR: 'it returns false'. Refute it at one input. -/
def fnExactUndoWrong : ChangeSpec := { name := "fnExactUndo", fn := fun _ => fun
  | [d1, d2] => { results := [.lit (.bool false)], args := [d1, d2] }
  | _ => none }
def FnExactUndoWrongFalsely : Prop := fnExactUndoRow.holds Tryz.pinned (OpenSpec.ofChange fnExactUndoWrong)

/-- 'laws.FnExactLiveMove': WHATEVER THE INPUT: true; the input reads as it did. -/
def fnExactLiveMoveSpec : ChangeSpec := { name := "fnExactLiveMove", fn := fun _ => fun
  | [d1, d2, d3, d4] => { results := [.lit (.bool true)], args := [d1, d2, d3, d4] }
  | _ => none }
def fnExactLiveMoveRow : OpenClaim := { program := "ythjgohbkpjhkeaagreatdoor", sum := "05b9275fc718bb095eb18011a5d79d7098deac9365379e8483a3d09f8d071405", func := "loop.example/g00011/laws.FnExactLiveMove", spec := "fnExactLiveMove", inPlace := ["internal/reflectlite.ValueOf", "(internal/reflectlite.Value).Type", "(internal/reflectlite.Value).IsNil", "internal/reflectlite.TypeOf", "(internal/reflectlite.Value).Elem", "(internal/reflectlite.Value).Set"], unfollowed := true, recurses := true, named := ["errors.errorType"], apart := false, laid := [("errors.errorType", laid_errors_errorType)] }
def FnExactLiveMoveSaid : Prop := fnExactLiveMoveRow.holds Tryz.pinned (OpenSpec.ofChange fnExactLiveMoveSpec)

/-- ITS FALSE NEIGHBOUR: 'it returns false'. Refute it at one input. -/
def fnExactLiveMoveWrong : ChangeSpec := { name := "fnExactLiveMove", fn := fun _ => fun
  | [d1, d2, d3, d4] => { results := [.lit (.bool false)], args := [d1, d2, d3, d4] }
  | _ => none }
def FnExactLiveMoveWrongFalsely : Prop := fnExactLiveMoveRow.holds Tryz.pinned (OpenSpec.ofChange fnExactLiveMoveWrong)

/-- 'laws.FnExactScript': WHATEVER THE INPUT: true; the input reads as it did. -/
def fnExactScriptSpec : ChangeSpec := { name := "fnExactScript", fn := fun _ => fun
  | [d1, d2] => { results := [.lit (.bool true)], args := [d1, d2] }
  | _ => none }
def fnExactScriptRow : OpenClaim := { program := "ythjgohbkpjhkeaagreatdoor", sum := "05b9275fc718bb095eb18011a5d79d7098deac9365379e8483a3d09f8d071405", func := "loop.example/g00011/laws.FnExactScript", spec := "fnExactScript", inPlace := ["internal/reflectlite.ValueOf", "(internal/reflectlite.Value).Type", "(internal/reflectlite.Value).IsNil", "internal/reflectlite.TypeOf", "(internal/reflectlite.Value).Elem", "(internal/reflectlite.Value).Set"], unfollowed := true, recurses := true, named := ["errors.errorType"], apart := false, laid := [("errors.errorType", laid_errors_errorType)] }
def FnExactScriptSaid : Prop := fnExactScriptRow.holds Tryz.pinned (OpenSpec.ofChange fnExactScriptSpec)

/-- ITS FALSE NEIGHBOUR: 'it returns false'. Refute it at one input. -/
def fnExactScriptWrong : ChangeSpec := { name := "fnExactScript", fn := fun _ => fun
  | [d1, d2] => { results := [.lit (.bool false)], args := [d1, d2] }
  | _ => none }
def FnExactScriptWrongFalsely : Prop := fnExactScriptRow.holds Tryz.pinned (OpenSpec.ofChange fnExactScriptWrong)

/-- 'laws.FnExactRangeMove': WHATEVER THE INPUT: true; the input reads as it did. -/
def fnExactRangeMoveSpec : ChangeSpec := { name := "fnExactRangeMove", fn := fun _ => fun
  | [d1, d2, d3] => { results := [.lit (.bool true)], args := [d1, d2, d3] }
  | _ => none }
def fnExactRangeMoveRow : OpenClaim := { program := "ythjgohbkpjhkeaagreatdoor", sum := "05b9275fc718bb095eb18011a5d79d7098deac9365379e8483a3d09f8d071405", func := "loop.example/g00011/laws.FnExactRangeMove", spec := "fnExactRangeMove", inPlace := ["internal/reflectlite.ValueOf", "(internal/reflectlite.Value).Type", "(internal/reflectlite.Value).IsNil", "internal/reflectlite.TypeOf", "(internal/reflectlite.Value).Elem", "(internal/reflectlite.Value).Set"], unfollowed := true, recurses := true, named := ["errors.errorType"], apart := false, laid := [("errors.errorType", laid_errors_errorType)] }
def FnExactRangeMoveSaid : Prop := fnExactRangeMoveRow.holds Tryz.pinned (OpenSpec.ofChange fnExactRangeMoveSpec)

/-- ITS FALSE NEIGHBOUR: 'it returns false'. Refute it at one input. -/
def fnExactRangeMoveWrong : ChangeSpec := { name := "fnExactRangeMove", fn := fun _ => fun
  | [d1, d2, d3] => { results := [.lit (.bool false)], args := [d1, d2, d3] }
  | _ => none }
def FnExactRangeMoveWrongFalsely : Prop := fnExactRangeMoveRow.holds Tryz.pinned (OpenSpec.ofChange fnExactRangeMoveWrong)

/- THE SECOND FORM. 'bulk': how many values and letters a reading holds, each counted each time it is reached (what is shared counts as often as it is met; a slice's spare places count too). A statement '..UptoSaid' is the law's where the arguments, and the package variables that the reading takes, are together of bulk at most 1048576: NARROWER than '..Said'. Prove '..Said' where nothing that the law and all that it calls make is longer than what came in: it says more and counts as full. Else prove '..UptoSaid'. A law counts once. -/
mutual
def uptoBulk {H : Type} : DataW H → Nat
  | .lit (.string bytes) => bytes.length + 1
  | .lit _ => 1
  | .nil => 1
  | .ptr d => uptoBulk d + 1
  | .slice elems spare => uptoBulkAll elems + uptoBulkAll spare + 1
  | .agg parts => uptoBulkAll parts + 1
  | .iface _ d => uptoBulk d + 1
  | .map entries => uptoBulkEntries entries + 1
  | .held _ => 1
def uptoBulkAll {H : Type} : List (DataW H) → Nat
  | [] => 0
  | d :: r => uptoBulk d + uptoBulkAll r
def uptoBulkEntries {H : Type} : List (Lit × DataW H) → Nat
  | [] => 0
  | x :: r => uptoBulkEntry x + uptoBulkEntries r
def uptoBulkEntry {H : Type} : Lit × DataW H → Nat
  | (.string bytes, d) => bytes.length + uptoBulk d + 1
  | (_, d) => uptoBulk d + 1
 end
def uptoSmall : (H : Type) → List (DataW H) → Bool := fun _ ds => decide (uptoBulkAll ds ≤ 1048576)
def OpenSpec.upto (s : _root_.Go.ChangeSpec) : _root_.Go.OpenSpec := { _root_.Go.OpenSpec.ofChange s with cond := some uptoSmall }

/-- 'laws.FnExactDo', WHERE WHAT IT READS IS OF BULK AT MOST 1048576: true; the input reads as it did. -/
def fnExactDoUptoRow : OpenClaim := { program := "ythjgohbkpjhkeaagreatdoor", sum := "05b9275fc718bb095eb18011a5d79d7098deac9365379e8483a3d09f8d071405", func := "loop.example/g00011/laws.FnExactDo", spec := "fnExactDo", inPlace := ["internal/reflectlite.ValueOf", "(internal/reflectlite.Value).Type", "(internal/reflectlite.Value).IsNil", "internal/reflectlite.TypeOf", "(internal/reflectlite.Value).Elem", "(internal/reflectlite.Value).Set"], unfollowed := true, recurses := true, named := ["errors.errorType"], apart := false, laid := [("errors.errorType", laid_errors_errorType)], narrowed := true }
def FnExactDoUptoSaid : Prop := fnExactDoUptoRow.holds Tryz.pinned (OpenSpec.upto fnExactDoSpec)

/-- 'laws.FnExactUndo', WHERE WHAT IT READS IS OF BULK AT MOST 1048576: true; the input reads as it did. -/
def fnExactUndoUptoRow : OpenClaim := { program := "ythjgohbkpjhkeaagreatdoor", sum := "05b9275fc718bb095eb18011a5d79d7098deac9365379e8483a3d09f8d071405", func := "loop.example/g00011/laws.FnExactUndo", spec := "fnExactUndo", inPlace := ["internal/reflectlite.ValueOf", "(internal/reflectlite.Value).Type", "(internal/reflectlite.Value).IsNil", "internal/reflectlite.TypeOf", "(internal/reflectlite.Value).Elem", "(internal/reflectlite.Value).Set"], unfollowed := true, recurses := true, named := ["errors.errorType"], apart := false, laid := [("errors.errorType", laid_errors_errorType)], narrowed := true }
def FnExactUndoUptoSaid : Prop := fnExactUndoUptoRow.holds Tryz.pinned (OpenSpec.upto fnExactUndoSpec)

/-- 'laws.FnExactLiveMove', WHERE WHAT IT READS IS OF BULK AT MOST 1048576: true; the input reads as it did. -/
def fnExactLiveMoveUptoRow : OpenClaim := { program := "ythjgohbkpjhkeaagreatdoor", sum := "05b9275fc718bb095eb18011a5d79d7098deac9365379e8483a3d09f8d071405", func := "loop.example/g00011/laws.FnExactLiveMove", spec := "fnExactLiveMove", inPlace := ["internal/reflectlite.ValueOf", "(internal/reflectlite.Value).Type", "(internal/reflectlite.Value).IsNil", "internal/reflectlite.TypeOf", "(internal/reflectlite.Value).Elem", "(internal/reflectlite.Value).Set"], unfollowed := true, recurses := true, named := ["errors.errorType"], apart := false, laid := [("errors.errorType", laid_errors_errorType)], narrowed := true }
def FnExactLiveMoveUptoSaid : Prop := fnExactLiveMoveUptoRow.holds Tryz.pinned (OpenSpec.upto fnExactLiveMoveSpec)

/-- 'laws.FnExactScript', WHERE WHAT IT READS IS OF BULK AT MOST 1048576: true; the input reads as it did. -/
def fnExactScriptUptoRow : OpenClaim := { program := "ythjgohbkpjhkeaagreatdoor", sum := "05b9275fc718bb095eb18011a5d79d7098deac9365379e8483a3d09f8d071405", func := "loop.example/g00011/laws.FnExactScript", spec := "fnExactScript", inPlace := ["internal/reflectlite.ValueOf", "(internal/reflectlite.Value).Type", "(internal/reflectlite.Value).IsNil", "internal/reflectlite.TypeOf", "(internal/reflectlite.Value).Elem", "(internal/reflectlite.Value).Set"], unfollowed := true, recurses := true, named := ["errors.errorType"], apart := false, laid := [("errors.errorType", laid_errors_errorType)], narrowed := true }
def FnExactScriptUptoSaid : Prop := fnExactScriptUptoRow.holds Tryz.pinned (OpenSpec.upto fnExactScriptSpec)

/-- 'laws.FnExactRangeMove', WHERE WHAT IT READS IS OF BULK AT MOST 1048576: true; the input reads as it did. -/
def fnExactRangeMoveUptoRow : OpenClaim := { program := "ythjgohbkpjhkeaagreatdoor", sum := "05b9275fc718bb095eb18011a5d79d7098deac9365379e8483a3d09f8d071405", func := "loop.example/g00011/laws.FnExactRangeMove", spec := "fnExactRangeMove", inPlace := ["internal/reflectlite.ValueOf", "(internal/reflectlite.Value).Type", "(internal/reflectlite.Value).IsNil", "internal/reflectlite.TypeOf", "(internal/reflectlite.Value).Elem", "(internal/reflectlite.Value).Set"], unfollowed := true, recurses := true, named := ["errors.errorType"], apart := false, laid := [("errors.errorType", laid_errors_errorType)], narrowed := true }
def FnExactRangeMoveUptoSaid : Prop := fnExactRangeMoveUptoRow.holds Tryz.pinned (OpenSpec.upto fnExactRangeMoveSpec)

end Rows
end Go.Proofs.YthjgohbkpjhkeaaGreatDoor
