/- Part 36 of the proof: DoCard. -/
import Derived.Test.YthjgohbkpjhkeaaGreatDoorA35
import Derived.Test.YthjgohbkpjhkeaaGreatDoorCards
import Derived.Test.YthjgohbkpjhkeaaGreatDoorTie
import Derived.SevenTiedAt
set_option linter.unusedVariables false
set_option linter.unusedSimpArgs false
set_option maxRecDepth 100000
namespace Go.Proofs.YthjgohbkpjhkeaaGreatDoor
open Go
theorem fnExactDoCard_holds : Rows.FnExactDoCardSaid :=
 Claim7.holds_tied_plain_at .later [] [.handle] true (true, "63789107f6c4aef1369ddeb2fa384edd8790d023cffdd26fd3a1ca9371cc79c7") true
  RowDo.over (fun _ h => by cases h) (by kernel_rfl) (fun _ h => by cases h) fnExactDo_row_tie rfl ⟨rfl, rfl⟩ (by kernel_rfl) rfl
  (fun f fn hf hfn => by
   obtain rfl : f = 3 := Option.some.inj ((show Tryz.prog.funcNamed "loop.example/g00011/laws.FnExactDo" = some 3 by kernel_rfl).symm.trans hf) |>.symm
   obtain rfl : fn = Tryz.f3 := (Option.some.inj (Tryz.func3.symm.trans hfn)).symm
   exact ⟨by kernel_rfl, fun j t ht => by
    rw [Tryz.params3] at ht
    have hm : t ∈ [24, 26] := by simpa using Array.mem_of_getElem? ht
    have hall : ([24, 26].all fun u => !Tryz.prog.wantsStandIn u) = true := by kernel_rfl
    exact (show Tryz.prog.wantsStandIn t = false by simpa using List.all_eq_true.1 hall t hm)⟩)
  (by kernel_rfl)
#print axioms fnExactDoCard_holds
end Go.Proofs.YthjgohbkpjhkeaaGreatDoor
