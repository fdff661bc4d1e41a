/-
  Part MAX of the proof's ground: Rk.
-/
import Derived.Test.YtcfedojmmfbbeaaGreatDoorRows
import Derived.JoinedOf
/-
  CLOSED FACTS of the row, one by one.
-/
set_option linter.all false
namespace Go.Proofs.YtcfedojmmfbbeaaGreatDoor
open Go
set_option maxRecDepth 100000
theorem row_inPlace : Tryz.prog.inPlace 3 = ["internal/bytealg.IndexByteString", "internal/bytealg.IndexString", "maps.clone"] := by kernel_rfl
theorem row_unfollowed : Tryz.prog.unfollowed 3 = true := by kernel_rfl
theorem row_recurses : Tryz.prog.recurses 3 = true := by kernel_rfl
theorem row_named : Tryz.prog.varsNamed 3 = Rows.idealAcceptsRow.named := by kernel_rfl
theorem row_laidOut : laidOutB Tryz.prog = true := by kernel_rfl
theorem row_mapsRowed : mapsRowed Tryz.prog = true := by kernel_rfl
theorem row_closed : joinedFacts Tryz.prog 3 Tryz.f3 Rows.idealAcceptsSpec Rows.idealAcceptsRow = true := by
  unfold joinedFacts
  rw [row_inPlace, row_unfollowed, row_recurses, row_named, row_laidOut, row_mapsRowed]
  kernel_rfl
end Go.Proofs.YtcfedojmmfbbeaaGreatDoor
