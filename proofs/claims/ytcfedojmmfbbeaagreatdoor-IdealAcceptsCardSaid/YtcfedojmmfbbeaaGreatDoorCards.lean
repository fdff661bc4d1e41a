/-
  DERIVED. GIVEN WITH THE SEED: THE CARDS: each row of YtcfedojmmfbbeaaGreatDoorRows.lean that lists a variable, with what it lists TIED to the program's text (the seventh form; the later family's looks); each row that meets fmt, with fmt's text TOLD by the authors' own Lean function (tested against real Go, not proved from fmt's source: count such statements apart). THE CARD IS WHAT COUNTS. Prove the row's statement (the work); the ties are given (YtcfedojmmfbbeaaGreatDoorTie.lean); close each card by the builder's one call (the guide's Derived/Test/ToyasCard.lean, 'card_holds'). Laid BY PROGRAM, IN A SANDBOX (cutbox-door.mjs). By AI agents, Wed Nov 11 2026. No macro, syntax, notation, axiom, sorry.
-/
import Derived.Test.YtcfedojmmfbbeaaGreatDoorRows
import GoSem.ClaimSeven
namespace Go.Proofs.YtcfedojmmfbbeaaGreatDoor
namespace Rows

/-- THE TIED CARD OF 'refmeshlaw45.IdealAccepts'. -/
def idealAcceptsCard : Claim7 := { stood := { row := idealAcceptsRow, standIns := [], harness := (true, "3eb9bf877531821dec03c5a1762c0563dda693e142497f9c9b1e86dd1ce9899e"), looks := true }, kinds := [], alts := [], laidByText := true, laidKinds := [.data, .data, .data, .data, .sentinel, .sentinel, .data, .widerDeep, .widerDeep, .data, .data, .pinned], laidTests := true, laidLooks := .later }
def IdealAcceptsCardSaid : Prop := Claim7.holds Tryz.pinned (.plain (OpenSpec.ofChange idealAcceptsSpec)) idealAcceptsCard

/-- THE SECOND FORM's CARD OF 'refmeshlaw45.IdealAccepts'. -/
def idealAcceptsUptoCard : Claim7 := { stood := { row := idealAcceptsUptoRow, standIns := [], harness := (true, "3eb9bf877531821dec03c5a1762c0563dda693e142497f9c9b1e86dd1ce9899e"), looks := true }, kinds := [], alts := [], laidByText := true, laidKinds := [.data, .data, .data, .data, .sentinel, .sentinel, .data, .widerDeep, .widerDeep, .data, .data, .pinned], laidTests := true, laidLooks := .later }
def IdealAcceptsUptoCardSaid : Prop := Claim7.holds Tryz.pinned (.plain (OpenSpec.upto idealAcceptsSpec)) idealAcceptsUptoCard
end Rows
end Go.Proofs.YtcfedojmmfbbeaaGreatDoor
