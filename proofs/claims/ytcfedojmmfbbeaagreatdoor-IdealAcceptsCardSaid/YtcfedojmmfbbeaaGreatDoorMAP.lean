/-
  Part MAP of the proof's ground: X26.
-/
import Derived.Test.YtcfedojmmfbbeaaGreatDoorMAO
/-
  IdealAccepts: the example holds: the run itself.
-/
set_option linter.all false
namespace Go.Proofs.YtcfedojmmfbbeaaGreatDoor
open Go.Mesh Go Go.RowKit
set_option linter.all false
set_option maxRecDepth 100000
def isT (r : Option (AV × St)) : Bool := match r with | some (.bool true, _) => true | _ => false
theorem awake_run : isT (runF Tryz.prog 311 168 (cutM [(21, c21), (22, c22)]) 60 (.fn 4 [] []) [] s0) = true := by
  rw [← runFZ_eq]; decide +kernel
end Go.Proofs.YtcfedojmmfbbeaaGreatDoor
