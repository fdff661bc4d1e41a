/-
  Part MAN of the proof's ground: X24.
-/
import Derived.Test.YtcfedojmmfbbeaaGreatDoorRows
import Derived.Test.YtcfedojmmfbbeaaGreatDoorMAM
/-
  IdealAccepts: what the kernel's runs of this program rest on.
-/
set_option linter.all false
namespace Go.Proofs.YtcfedojmmfbbeaaGreatDoor
open Go.Mesh Go Go.RowKit
set_option linter.all false
set_option maxRecDepth 100000
theorem all_named : Tryz.prog.funcs.toList.all (fun f => f.name != "runtime.NumGoroutine") = true := by decide +kernel
theorem run_mark {P : Program} {m : Mark} {w : World} : (mark m).run P w = .ok () w := rfl
theorem find311 : Extern.find Tryz.f311 = some Extern.BytealgIndexByte.indexByte := by rfl
theorem findN311 : (Extern.findNext Tryz.f311).isNone = true := by decide +kernel
theorem find168 : Extern.find Tryz.f168 = some Extern.MapsClone.clone := by rfl
theorem findN168 : (Extern.findNext Tryz.f168).isNone = true := by decide +kernel
theorem env : Env Tryz.prog 311 168 where
  mixed := by decide +kernel
  name := fun g fn h e => by
    have h1 := List.all_eq_true.1 all_named fn (by rw [Array.mem_toList_iff]; exact Array.mem_of_getElem? h)
    rw [e] at h1; simp at h1
  ibx := fun args w => by
    have h0 : Extern.findNext Tryz.f311 = none := by
      have := findN311
      cases h : Extern.findNext Tryz.f311 with
      | none => rfl
      | some x => rw [h] at this; cases this
    have hn : (Tryz.f311.name == "runtime.NumGoroutine") = false := by decide +kernel
    have hb : Tryz.f311.body.isNone = true := rfl
    simp only [callFunc, Sem.run_bind, run_program, Result.andThen_ok, Tryz.func311, hn, hb, h0, find311, run_mark]
    simp
  clx := fun args w => by
    have h0 : Extern.findNext Tryz.f168 = none := by
      have := findN168
      cases h : Extern.findNext Tryz.f168 with
      | none => rfl
      | some x => rw [h] at this; cases this
    have hn : (Tryz.f168.name == "runtime.NumGoroutine") = false := by decide +kernel
    have hb : Tryz.f168.body.isNone = true := rfl
    simp only [callFunc, Sem.run_bind, run_program, Result.andThen_ok, Tryz.func168, hn, hb, h0, find168, run_mark]
    simp
end Go.Proofs.YtcfedojmmfbbeaaGreatDoor
