/- For any two strings the law FnExactTokens returns true, and both strings read afterwards as before; the package's variables start as the program's text lays them (the tied card). Conditions: none but those that the given card bears. -/
import Derived.Test.YtnjnoabldjodcaaDoorA25
import Derived.Test.YtnjnoabldjodcaaDoorCards
import Derived.Test.YtnjnoabldjodcaaDoorTie
import Derived.SevenTiedAt
namespace Go.Proofs.YtnjnoabldjodcaaDoor
open Go
set_option maxRecDepth 100000 in
theorem fnExactTokensCard_holds : Rows.FnExactTokensCardSaid :=
  Claim7.holds_tied_plain_at .later [] [.data] true (true, "530866ce5517cf0a5c99ea41779369f11deeb8e6f0623494f2f7ad1a26063d91") false
    TokRow.over (fun _ h => by cases h) (by kernel_rfl) (fun _ h => by cases h) fnExactTokens_row_tie rfl ⟨rfl, rfl⟩ (by kernel_rfl) rfl
    (fun f fn hf hfn => by
      obtain rfl : f = 3 := Option.some.inj ((show Tryd.prog.funcNamed "loop.example/g00011/laws.FnExactTokens" = some 3 by kernel_rfl).symm.trans hf) |>.symm
      obtain rfl : fn = Tryd.f3 := (Option.some.inj (Tryd.func3.symm.trans hfn)).symm
      exact ⟨by kernel_rfl, fun j t ht => by
        rw [Tryd.params3] at ht
        have hm : t ∈ [9, 9] := by simpa using Array.mem_of_getElem? ht
        have hall : ([9, 9].all fun u => !Tryd.prog.wantsStandIn u) = true := by kernel_rfl
        exact (show Tryd.prog.wantsStandIn t = false by simpa using List.all_eq_true.1 hall t hm)⟩)
    (by kernel_rfl)
#print axioms fnExactTokensCard_holds
end Go.Proofs.YtnjnoabldjodcaaDoor
