/- For every compiled program: IdealAccepts returns true and leaves its argument as it was. Condition: the listed package-level variables read as the program's text lays them, which the card ties to that text. -/
import Derived.Test.YtcfedojmmfbbeaaGreatDoorCards
import Derived.Test.YtcfedojmmfbbeaaGreatDoorTie
import Derived.SevenTiedAt
import Derived.Test.YtcfedojmmfbbeaaGreatDoorMAY

set_option linter.all false
namespace Go.Proofs.YtcfedojmmfbbeaaGreatDoor
open Go
set_option maxRecDepth 100000
theorem idealAcceptsCard_holds : Rows.IdealAcceptsCardSaid :=
  Claim7.holds_tied_plain_at .later [] [.data, .data, .data, .data, .sentinel, .sentinel, .data, .widerDeep, .widerDeep, .data, .data, .pinned] true (true, "3eb9bf877531821dec03c5a1762c0563dda693e142497f9c9b1e86dd1ce9899e") true
    idealAccepts_holds (fun _ h => by cases h) (by kernel_rfl) (fun _ h => by cases h) idealAccepts_row_tie rfl ⟨rfl, rfl⟩ (by kernel_rfl) rfl
    (fun f fn hf hfn => by
      obtain rfl : f = 3 := Option.some.inj ((show Tryz.prog.funcNamed "refmesh/refmeshlaw45.IdealAccepts" = some 3 by kernel_rfl).symm.trans hf) |>.symm
      obtain rfl : fn = Tryz.f3 := (Option.some.inj (Tryz.func3.symm.trans hfn)).symm
      exact ⟨by kernel_rfl, fun j t ht => by
        rw [Tryz.params3] at ht
        have hm : t ∈ [24] := by simpa using Array.mem_of_getElem? ht
        have hall : ([24].all fun u => !Tryz.prog.wantsStandIn u) = true := by kernel_rfl
        exact (show Tryz.prog.wantsStandIn t = false by simpa using List.all_eq_true.1 hall t hm)⟩)
    (by kernel_rfl)
#print axioms idealAcceptsCard_holds
end Go.Proofs.YtcfedojmmfbbeaaGreatDoor
