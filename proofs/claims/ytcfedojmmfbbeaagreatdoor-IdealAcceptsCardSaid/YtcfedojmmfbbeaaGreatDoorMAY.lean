/-
  Part MAY of the proof's ground: Ra.
-/
import Derived.Test.YtcfedojmmfbbeaaGreatDoorMAW
import Derived.Test.YtcfedojmmfbbeaaGreatDoorMAX
/- For every compiled program: IdealAccepts returns true and leaves its argument as it was. Condition: the listed package-level variables read as the program's text lays them. -/
set_option linter.all false
namespace Go.Proofs.YtcfedojmmfbbeaaGreatDoor
open Go.Mesh Go.RowKit Go.ChangeShapes Go.WideShapes Go.ChangeAt
set_option linter.unusedVariables false
theorem accepts_own : ownKnob Tryz.prog.godebug = none := by kernel_rfl
set_option maxRecDepth 100000
theorem accepts_lifted (os : Os) (started : os.Started) (H : Type) (enc : TypeId × Value → H) :
    ReturnsInHanded {} Tryz.checked os 3 .any (fun w args => (Rows.idealAcceptsSpec.pre enc Tryz.prog Tryz.f3 [] false w args ∧ laidMetH Tryz.prog Rows.idealAcceptsRow.laid w) ∧ sizedMet enc Tryz.prog Tryz.f3 (OpenSpec.ofChange Rows.idealAcceptsSpec) false w args)
      (Rows.idealAcceptsSpec.post enc Tryz.prog Tryz.f3 false true false false) := by
  refine returnsInHanded_of_change_and (C := Tryz.checked) (X := fun w _ => laidMetH Tryz.prog Rows.idealAcceptsRow.laid w) (fun _ _ _ hh h => h.of_heap hh) accepts_own started (by kernel_rfl) Tryz.func3
    (ChangeSpec.witness_shaped (enc := enc) (C := Tryz.checked) (os := os) (X := fun w _ => laidMetH Tryz.prog Rows.idealAcceptsRow.laid w) false (wit os) #[.agg #[.slice none 0 0]] 8 rfl (World.shaped_of_RefB (wit_vars os _) (wit_rest os _)) (by kernel_rfl) (by kernel_rfl) (by kernel_rfl) (wit_laid os _)) ?_
  intro W base args ds gs before hval0 hW _ hwt hL _
  have hval : ∀ (j : Nat) t v, Tryz.f3.params[j]? = some t → args[j]? = some v → Value.okWide Tryz.prog W .any base t v := hval0
  have hW' := hW
  obtain ⟨p, q, hA0, hV, rfl, hfz, hnd⟩ := hW
  have hA : DataW.TrodAll enc Tryz.prog W 0 (fun _ => true) true Tryz.f3.params.toList args.toList ds p := hA0
  rw [Tryz.params3] at hA hval hwt
  obtain ⟨v0, vs0, d0, ds0, p0, q0, hargs, rfl, rfl, h0, r0⟩ := trodAll_cons hA
  obtain ⟨rfl, rfl, rfl⟩ := trodAll_nil r0
  obtain rfl : args = #[v0] := by cases args; simp_all
  obtain ⟨rfl, rfl⟩ := trodVars_none hV
  have hwt0 : ∀ n, n ∈ d0.weights Tryz.prog 24 → n ≤ 140737488351232 := fun n hn => by
    have := List.all_eq_true.1 hwt n (by
      show n ∈ DataW.weightsEach Tryz.prog (24 :: _) (d0 :: _)
      rw [DataW.weightsEach]
      exact List.mem_append_left _ hn)
    exact of_decide_eq_true this
  obtain ⟨us, cs, rfl, hc⟩ := code_of (hval 0 24 v0 rfl rfl) h0 hwt0
  obtain ⟨hl, hg⟩ := gl_of hL
  refine (calls_of_pspec (law_s hg hl hc)).mono fun e W' ⟨he, hg⟩ => ?_
  subst he
  refine ⟨_, rfl, law_post row_laidOut ?_ rfl hW' ⟨rfl, rfl, rfl⟩ Tryz.underlying4 (by kernel_rfl) hg⟩
  rw [Tryz.params3]
  intro t ht
  have : t = 24 := by simpa using ht
  subst this
  exact ⟨by kernel_rfl, of_decide_eq_true (by kernel_rfl)⟩
theorem idealAccepts_holds : Rows.IdealAcceptsSaid :=
  OpenClaim.holds_of_wide 3 Tryz.f3 rfl rfl rfl rfl rfl rfl rfl ⟨rfl, rfl, rfl, rfl, rfl⟩ rfl rfl rfl rfl rfl (by kernel_rfl) Tryz.func3 row_closed
    (of_decide_eq_true (by kernel_rfl)) (by unfold Func.isWrapper; first | (rw [if_pos (by decide +kernel)]; kernel_rfl) | (rw [if_neg (by decide +kernel)]; exact ⟨rfl, rfl⟩))
    (fun os started H enc _ => accepts_lifted os started H enc)
#print axioms idealAccepts_holds
end Go.Proofs.YtcfedojmmfbbeaaGreatDoor
