/-
  slices.SortFunc at no element, in my logic.
-/
import Derived.Shelf.SlSortCmp.NoneTotal
import Derived.Test.YtfhoecgiahpddaaGreatSort
set_option linter.all false
namespace Go.Mesh
open Go.Proofs Go.Shelf
theorem sort_none {P : Program} {ρ : Ren} (LL : SlLaysF0.n6 P ρ) (p : Option Addr) (c : Nat) (fv : Value) (h : Frag) (M : Hp) : FSpec P (ρ.f 6) #[.slice p 0 c, fv] h M (fun h' L' v => h' = h ∧ v = .tuple #[] ∧ L' = M) := by
  intro w hw
  refine (AnyF.slices_SortFunc_none LL p c fv w).mono fun e w' ⟨he, hw'⟩ => ?_
  subst hw'
  exact ⟨_, h, M, he, ⟨rfl, rfl, rfl⟩, Ext.refl hw⟩
end Go.Mesh
