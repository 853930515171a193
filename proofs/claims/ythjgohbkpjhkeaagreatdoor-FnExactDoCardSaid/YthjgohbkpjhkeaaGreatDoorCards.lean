/-
  DERIVED. GIVEN WITH THE SEED: THE CARDS: each row of YthjgohbkpjhkeaaGreatDoorRows.lean that lists a variable, with what it lists TIED to the program's text (the seventh form; the later family's looks); each row that meets fmt, with fmt's text TOLD by the authors' own Lean function (tested against real Go, not proved from fmt's source: count such statements apart). THE CARD IS WHAT COUNTS. Prove the row's statement (the work); the ties are given (YthjgohbkpjhkeaaGreatDoorTie.lean); close each card by the builder's one call (the guide's Derived/Test/ToyasCard.lean, 'card_holds'). Laid BY PROGRAM, IN A SANDBOX (cutbox-door.mjs). By AI agents, Wed Nov 11 2026. No macro, syntax, notation, axiom, sorry.
-/
import Derived.Test.YthjgohbkpjhkeaaGreatDoorRows
import GoSem.ClaimSeven
namespace Go.Proofs.YthjgohbkpjhkeaaGreatDoor
namespace Rows

/-- THE TIED CARD OF 'laws.FnExactDo'. -/
def fnExactDoCard : Claim7 := { stood := { row := fnExactDoRow, standIns := [], harness := (true, "63789107f6c4aef1369ddeb2fa384edd8790d023cffdd26fd3a1ca9371cc79c7"), looks := true }, kinds := [], alts := [], laidByText := true, laidKinds := [.handle], laidTests := true, laidLooks := .later }
def FnExactDoCardSaid : Prop := Claim7.holds Tryz.pinned (.plain (OpenSpec.ofChange fnExactDoSpec)) fnExactDoCard

/-- THE TIED CARD OF 'laws.FnExactUndo'. -/
def fnExactUndoCard : Claim7 := { stood := { row := fnExactUndoRow, standIns := [], harness := (true, "63789107f6c4aef1369ddeb2fa384edd8790d023cffdd26fd3a1ca9371cc79c7"), looks := true }, kinds := [], alts := [], laidByText := true, laidKinds := [.handle], laidTests := true, laidLooks := .later }
def FnExactUndoCardSaid : Prop := Claim7.holds Tryz.pinned (.plain (OpenSpec.ofChange fnExactUndoSpec)) fnExactUndoCard

/-- THE TIED CARD OF 'laws.FnExactLiveMove'. -/
def fnExactLiveMoveCard : Claim7 := { stood := { row := fnExactLiveMoveRow, standIns := [], harness := (true, "63789107f6c4aef1369ddeb2fa384edd8790d023cffdd26fd3a1ca9371cc79c7"), looks := true }, kinds := [], alts := [], laidByText := true, laidKinds := [.handle], laidTests := true, laidLooks := .later }
def FnExactLiveMoveCardSaid : Prop := Claim7.holds Tryz.pinned (.plain (OpenSpec.ofChange fnExactLiveMoveSpec)) fnExactLiveMoveCard

/-- THE TIED CARD OF 'laws.FnExactScript'. -/
def fnExactScriptCard : Claim7 := { stood := { row := fnExactScriptRow, standIns := [], harness := (true, "63789107f6c4aef1369ddeb2fa384edd8790d023cffdd26fd3a1ca9371cc79c7"), looks := true }, kinds := [], alts := [], laidByText := true, laidKinds := [.handle], laidTests := true, laidLooks := .later }
def FnExactScriptCardSaid : Prop := Claim7.holds Tryz.pinned (.plain (OpenSpec.ofChange fnExactScriptSpec)) fnExactScriptCard

/-- THE TIED CARD OF 'laws.FnExactRangeMove'. -/
def fnExactRangeMoveCard : Claim7 := { stood := { row := fnExactRangeMoveRow, standIns := [], harness := (true, "63789107f6c4aef1369ddeb2fa384edd8790d023cffdd26fd3a1ca9371cc79c7"), looks := true }, kinds := [], alts := [], laidByText := true, laidKinds := [.handle], laidTests := true, laidLooks := .later }
def FnExactRangeMoveCardSaid : Prop := Claim7.holds Tryz.pinned (.plain (OpenSpec.ofChange fnExactRangeMoveSpec)) fnExactRangeMoveCard

/-- THE SECOND FORM's CARD OF 'laws.FnExactDo'. -/
def fnExactDoUptoCard : Claim7 := { stood := { row := fnExactDoUptoRow, standIns := [], harness := (true, "63789107f6c4aef1369ddeb2fa384edd8790d023cffdd26fd3a1ca9371cc79c7"), looks := true }, kinds := [], alts := [], laidByText := true, laidKinds := [.handle], laidTests := true, laidLooks := .later }
def FnExactDoUptoCardSaid : Prop := Claim7.holds Tryz.pinned (.plain (OpenSpec.upto fnExactDoSpec)) fnExactDoUptoCard

/-- THE SECOND FORM's CARD OF 'laws.FnExactUndo'. -/
def fnExactUndoUptoCard : Claim7 := { stood := { row := fnExactUndoUptoRow, standIns := [], harness := (true, "63789107f6c4aef1369ddeb2fa384edd8790d023cffdd26fd3a1ca9371cc79c7"), looks := true }, kinds := [], alts := [], laidByText := true, laidKinds := [.handle], laidTests := true, laidLooks := .later }
def FnExactUndoUptoCardSaid : Prop := Claim7.holds Tryz.pinned (.plain (OpenSpec.upto fnExactUndoSpec)) fnExactUndoUptoCard

/-- THE SECOND FORM's CARD OF 'laws.FnExactLiveMove'. -/
def fnExactLiveMoveUptoCard : Claim7 := { stood := { row := fnExactLiveMoveUptoRow, standIns := [], harness := (true, "63789107f6c4aef1369ddeb2fa384edd8790d023cffdd26fd3a1ca9371cc79c7"), looks := true }, kinds := [], alts := [], laidByText := true, laidKinds := [.handle], laidTests := true, laidLooks := .later }
def FnExactLiveMoveUptoCardSaid : Prop := Claim7.holds Tryz.pinned (.plain (OpenSpec.upto fnExactLiveMoveSpec)) fnExactLiveMoveUptoCard

/-- THE SECOND FORM's CARD OF 'laws.FnExactScript'. -/
def fnExactScriptUptoCard : Claim7 := { stood := { row := fnExactScriptUptoRow, standIns := [], harness := (true, "63789107f6c4aef1369ddeb2fa384edd8790d023cffdd26fd3a1ca9371cc79c7"), looks := true }, kinds := [], alts := [], laidByText := true, laidKinds := [.handle], laidTests := true, laidLooks := .later }
def FnExactScriptUptoCardSaid : Prop := Claim7.holds Tryz.pinned (.plain (OpenSpec.upto fnExactScriptSpec)) fnExactScriptUptoCard

/-- THE SECOND FORM's CARD OF 'laws.FnExactRangeMove'. -/
def fnExactRangeMoveUptoCard : Claim7 := { stood := { row := fnExactRangeMoveUptoRow, standIns := [], harness := (true, "63789107f6c4aef1369ddeb2fa384edd8790d023cffdd26fd3a1ca9371cc79c7"), looks := true }, kinds := [], alts := [], laidByText := true, laidKinds := [.handle], laidTests := true, laidLooks := .later }
def FnExactRangeMoveUptoCardSaid : Prop := Claim7.holds Tryz.pinned (.plain (OpenSpec.upto fnExactRangeMoveSpec)) fnExactRangeMoveUptoCard
end Rows
end Go.Proofs.YthjgohbkpjhkeaaGreatDoor
