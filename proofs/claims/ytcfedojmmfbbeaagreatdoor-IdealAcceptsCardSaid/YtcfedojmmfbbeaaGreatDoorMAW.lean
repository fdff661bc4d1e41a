/-
  Part MAW of the proof's ground: Rw.
-/
import Derived.LaidOnce
import Derived.Stop.Joined
import Derived.Test.YtcfedojmmfbbeaaGreatDoorMAV
/-
  A START IN WHICH THE LISTED VARIABLES READ AS LISTED.
-/
set_option linter.all false
namespace Go.Proofs.YtcfedojmmfbbeaaGreatDoor
open Go.Mesh Go.RowKit
set_option linter.unusedVariables false
set_option maxRecDepth 100000
noncomputable def wHeap : Array Obj := #[
  .cells (vd Rows.laid_refmesh_checker_codes).toArray 131,
  .cells (vd Rows.laid_refmesh_bytecode_operators).toArray 245,
  .cells (vd Rows.laid_refmesh_syntax_forms).toArray 255,
  .cells (vd Rows.laid_internal_strconv_uint64pow10).toArray 363,
  .cells #[.int .i64 0] 3,
  .cells #[.slice (some ⟨21, 0, none⟩) 19 19] 64,
  .cells #[.iface 407 (.pointer (some ⟨18, 0, none⟩))] 301,
  .cells #[.iface 407 (.pointer (some ⟨19, 0, none⟩))] 301,
  .cells (vd Rows.laid_math_bits_deBruijn32tab).toArray 397,
  .cells (vd Rows.laid_math_bits_deBruijn64tab).toArray 398,
  .cells #[.slice (some ⟨20, 0, none⟩) 24 24] 64,
  .cells (vd Rows.laid_unicode_utf8_first).toArray 400,
  .cells (vd Rows.laid_unicode_utf8_acceptRanges).toArray 403,
  .cells ((Array.range Tryz.prog.types.size).map fun t => .int .u64 (Int.ofNat t)) 0,
  .map #[] 0,
  .finalizers #[] none,
  .cells #[.bool false] 0,
  .finalizers #[] none,
  .cells #[.string ⟨#[105, 110, 118, 97, 108, 105, 100, 32, 115, 121, 110, 116, 97, 120]⟩] 409,
  .cells #[.string ⟨#[118, 97, 108, 117, 101, 32, 111, 117, 116, 32, 111, 102, 32, 114, 97, 110, 103, 101]⟩] 409,
  .cells (elv Rows.laid_refmesh_lexer_keywords).toArray 9,
  .cells (elv Rows.laid_refmesh_lexer_symbols).toArray 9]
noncomputable def wit (os : Os) : World := { World.holding Tryz.prog os ⟨#[], #[], []⟩ with heap := wHeap }
/-- plain listed variables: one closed fact -/
noncomputable def laidB (P : Program) (w : World) (fuel M : Nat) (l : List (String × DataW Unit)) : Option (List (String × DataW Unit)) :=
  (DataW.laidRun P w fuel (l.map (·.1))).bind fun x => if nodupBits M x.2 0 && laidRowsB P w x.2 then some x.1 else none
theorem laidMet_of_B {P : Program} {w : World} {fuel M : Nat} {l : List (String × DataW Unit)} (h : laidB P w fuel M l = some l) : laidMet P l w := by
  unfold laidB at h
  obtain ⟨x, hx, h⟩ := Option.bind_eq_some_iff.1 h
  split at h
  · rename_i hb
    rw [Bool.and_eq_true] at hb
    simp only [Option.some.injEq] at h
    exact laidMet_of_run (ps := x.2) fuel (by rw [hx, ← h]) (decide_eq_true (nodupBits_sound hb.1).1) hb.2
  · cases h
theorem wit_laid (os : Os) (args : Array Value) : laidMetH Tryz.prog Rows.idealAcceptsRow.laid ((wit os).forCall (fun _ _ => 0) ⟨#[], args, []⟩).memory := by
  rw [MakeChecks.laidMetH_plain _ _ _ (by kernel_rfl)]
  exact laidMet_of_B (fuel := 8) (M := 512) (by kernel_rfl)
theorem wit_vars (os : Os) (args : Array Value) : ((wit os).forCall (fun _ _ => 0) ⟨#[], args, []⟩).variablesRefB Tryz.prog = true := by kernel_rfl
theorem wit_rest (os : Os) (args : Array Value) : (((wit os).forCall (fun _ _ => 0) ⟨#[], args, []⟩).heap.toList.drop Tryz.prog.globals.size).take ((begin Tryz.prog (fun _ _ => 0) default).world.heap.size - Tryz.prog.globals.size) =
      (begin Tryz.prog (fun _ _ => 0) default).world.heap.toList.drop Tryz.prog.globals.size := by kernel_rfl
end Go.Proofs.YtcfedojmmfbbeaaGreatDoor
