/-
  No cell of these rows narrows 'for every input' (looked for: loops, veiled, ifaces, maps, wideKeys, modest, calm, conditions, laid).
  DERIVED. THE GIVEN ROWS OF THIS SEAT. 6 by the template 'for every input the law returns true; each argument reads behind the call as it read before'; 0 by the template 'total and deterministic' (their statements: YtfhoecgiahpddaaGreatTotals.lean).
  GIVEN WITH THE SEED: the statements are not yours to turn. If you find one false, say at which input.
  Laid BY PROGRAM, IN A SANDBOX (cutbox-rows.mjs): the forced cells as the released guide's own fill.sh prints them over the translation 2b6e4a096cdcaca0… (all of the seat's roots in one cut). By AI agents, Wed Nov 11 2026. No macro, syntax, notation, axiom, sorry.
-/
import Derived.Test.YtfhoecgiahpddaaGreatChecked
import GoSem.Claim
import GoSem.ClaimJoined
import GoSem.ClaimMapViews
import Derived.JoinedTies
import Derived.KernelRfl
namespace Go.Proofs.YtfhoecgiahpddaaGreat
/- THE CELL 'sum', in the pinned program and in every row, IS THE sha256 OF THE DUMP (.gsa) THAT YtfhoecgiahpddaaGreatProg.lean LOADS. Nothing in Lean hashes anything: it is a label: what it is worth is what the hold of that sum in a sandbox is worth. -/
noncomputable def Tryz.pinned : Pinned := { name := "ytfhoecgiahpddaagreat", sum := "2b6e4a096cdcaca0d19ee1a433efc7f396de0c3039b79fa9658807e839446494", checked := Tryz.checked }
namespace Rows
def none {H : Type} : Left H := { results := [], args := [] }

/-- 'refmeshlaw55.ObserverReaches': WHATEVER THE INPUT: true; the input reads as it did. -/
def observerReachesSpec : ChangeSpec := { name := "observerReaches", fn := fun _ => fun
  | [d] => { results := [.lit (.bool true)], args := [d] }
  | _ => none }
def observerReachesRow : OpenClaim := { program := "ytfhoecgiahpddaagreat", sum := "2b6e4a096cdcaca0d19ee1a433efc7f396de0c3039b79fa9658807e839446494", func := "refmesh/refmeshlaw55.ObserverReaches", spec := "observerReaches", unfollowed := true, recurses := true, plainKeys := false, apart := false }
def ObserverReachesSaid : Prop := observerReachesRow.holds Tryz.pinned (OpenSpec.ofChange observerReachesSpec)

/-- ITS FALSE NEIGHBOUR: 'it returns false'. Refute it at one input. -/
def observerReachesWrong : ChangeSpec := { name := "observerReaches", fn := fun _ => fun
  | [d] => { results := [.lit (.bool false)], args := [d] }
  | _ => none }
def ObserverReachesWrongFalsely : Prop := observerReachesRow.holds Tryz.pinned (OpenSpec.ofChange observerReachesWrong)

/-- 'refmeshlaw55.ObserverGraphs': WHATEVER THE INPUT: true; the input reads as it did. -/
def observerGraphsSpec : ChangeSpec := { name := "observerGraphs", fn := fun _ => fun
  | [d] => { results := [.lit (.bool true)], args := [d] }
  | _ => none }
def observerGraphsRow : OpenClaim := { program := "ytfhoecgiahpddaagreat", sum := "2b6e4a096cdcaca0d19ee1a433efc7f396de0c3039b79fa9658807e839446494", func := "refmesh/refmeshlaw55.ObserverGraphs", spec := "observerGraphs", unfollowed := true, recurses := true, plainKeys := false, apart := false }
def ObserverGraphsSaid : Prop := observerGraphsRow.holds Tryz.pinned (OpenSpec.ofChange observerGraphsSpec)

/-- ITS FALSE NEIGHBOUR: 'it returns false'. Refute it at one input. -/
def observerGraphsWrong : ChangeSpec := { name := "observerGraphs", fn := fun _ => fun
  | [d] => { results := [.lit (.bool false)], args := [d] }
  | _ => none }
def ObserverGraphsWrongFalsely : Prop := observerGraphsRow.holds Tryz.pinned (OpenSpec.ofChange observerGraphsWrong)

/-- 'refmeshlaw55.ObserverPaths': WHATEVER THE INPUT: true; the input reads as it did. -/
def observerPathsSpec : ChangeSpec := { name := "observerPaths", fn := fun _ => fun
  | [d1, d2, d3] => { results := [.lit (.bool true)], args := [d1, d2, d3] }
  | _ => none }
def observerPathsRow : OpenClaim := { program := "ytfhoecgiahpddaagreat", sum := "2b6e4a096cdcaca0d19ee1a433efc7f396de0c3039b79fa9658807e839446494", func := "refmesh/refmeshlaw55.ObserverPaths", spec := "observerPaths", unfollowed := true, recurses := true, plainKeys := false, apart := false }
def ObserverPathsSaid : Prop := observerPathsRow.holds Tryz.pinned (OpenSpec.ofChange observerPathsSpec)

/-- ITS FALSE NEIGHBOUR: 'it returns false'. Refute it at one input. -/
def observerPathsWrong : ChangeSpec := { name := "observerPaths", fn := fun _ => fun
  | [d1, d2, d3] => { results := [.lit (.bool false)], args := [d1, d2, d3] }
  | _ => none }
def ObserverPathsWrongFalsely : Prop := observerPathsRow.holds Tryz.pinned (OpenSpec.ofChange observerPathsWrong)

/-- 'refmeshlaw55.ObserverJudges': WHATEVER THE INPUT: true; the input reads as it did. -/
def observerJudgesSpec : ChangeSpec := { name := "observerJudges", fn := fun _ => fun
  | [d1, d2, d3] => { results := [.lit (.bool true)], args := [d1, d2, d3] }
  | _ => none }
def observerJudgesRow : OpenClaim := { program := "ytfhoecgiahpddaagreat", sum := "2b6e4a096cdcaca0d19ee1a433efc7f396de0c3039b79fa9658807e839446494", func := "refmesh/refmeshlaw55.ObserverJudges", spec := "observerJudges", unfollowed := true, recurses := true, plainKeys := false, apart := false }
def ObserverJudgesSaid : Prop := observerJudgesRow.holds Tryz.pinned (OpenSpec.ofChange observerJudgesSpec)

/-- ITS FALSE NEIGHBOUR: 'it returns false'. Refute it at one input. -/
def observerJudgesWrong : ChangeSpec := { name := "observerJudges", fn := fun _ => fun
  | [d1, d2, d3] => { results := [.lit (.bool false)], args := [d1, d2, d3] }
  | _ => none }
def ObserverJudgesWrongFalsely : Prop := observerJudgesRow.holds Tryz.pinned (OpenSpec.ofChange observerJudgesWrong)

/-- 'refmeshlaw55.ObserverOrder': WHATEVER THE INPUT: true; the input reads as it did. -/
def observerOrderSpec : ChangeSpec := { name := "observerOrder", fn := fun _ => fun
  | [d1, d2] => { results := [.lit (.bool true)], args := [d1, d2] }
  | _ => none }
def observerOrderRow : OpenClaim := { program := "ytfhoecgiahpddaagreat", sum := "2b6e4a096cdcaca0d19ee1a433efc7f396de0c3039b79fa9658807e839446494", func := "refmesh/refmeshlaw55.ObserverOrder", spec := "observerOrder", unfollowed := true, recurses := true, plainKeys := false, apart := false }
def ObserverOrderSaid : Prop := observerOrderRow.holds Tryz.pinned (OpenSpec.ofChange observerOrderSpec)

/-- ITS FALSE NEIGHBOUR: 'it returns false'. Refute it at one input. -/
def observerOrderWrong : ChangeSpec := { name := "observerOrder", fn := fun _ => fun
  | [d1, d2] => { results := [.lit (.bool false)], args := [d1, d2] }
  | _ => none }
def ObserverOrderWrongFalsely : Prop := observerOrderRow.holds Tryz.pinned (OpenSpec.ofChange observerOrderWrong)

/-- 'refmeshlaw55.ObserverAgreement': WHATEVER THE INPUT: true; the input reads as it did. -/
def observerAgreementSpec : ChangeSpec := { name := "observerAgreement", fn := fun _ => fun
  | [d1, d2] => { results := [.lit (.bool true)], args := [d1, d2] }
  | _ => none }
def observerAgreementRow : OpenClaim := { program := "ytfhoecgiahpddaagreat", sum := "2b6e4a096cdcaca0d19ee1a433efc7f396de0c3039b79fa9658807e839446494", func := "refmesh/refmeshlaw55.ObserverAgreement", spec := "observerAgreement", unfollowed := true, recurses := true, plainKeys := false, apart := false }
def ObserverAgreementSaid : Prop := observerAgreementRow.holds Tryz.pinned (OpenSpec.ofChange observerAgreementSpec)

/-- ITS FALSE NEIGHBOUR: 'it returns false'. Refute it at one input. -/
def observerAgreementWrong : ChangeSpec := { name := "observerAgreement", fn := fun _ => fun
  | [d1, d2] => { results := [.lit (.bool false)], args := [d1, d2] }
  | _ => none }
def ObserverAgreementWrongFalsely : Prop := observerAgreementRow.holds Tryz.pinned (OpenSpec.ofChange observerAgreementWrong)

/- THE SECOND FORM. 'bulk': how many values and letters a reading holds, each counted each time it is reached (what is shared counts as often as it is met; a slice's spare places count too). A statement '..UptoSaid' is the law's where the arguments, and the package variables that the reading takes, are together of bulk at most 1048576: NARROWER than '..Said'. Prove '..Said' where nothing that the law and all that it calls make is longer than what came in: it says more and counts as full. Else prove '..UptoSaid'. A law counts once. -/
mutual
def uptoBulk {H : Type} : DataW H → Nat
  | .lit (.string bytes) => bytes.length + 1
  | .lit _ => 1
  | .nil => 1
  | .ptr d => uptoBulk d + 1
  | .slice elems spare => uptoBulkAll elems + uptoBulkAll spare + 1
  | .agg parts => uptoBulkAll parts + 1
  | .iface _ d => uptoBulk d + 1
  | .map entries => uptoBulkEntries entries + 1
  | .held _ => 1
def uptoBulkAll {H : Type} : List (DataW H) → Nat
  | [] => 0
  | d :: r => uptoBulk d + uptoBulkAll r
def uptoBulkEntries {H : Type} : List (Lit × DataW H) → Nat
  | [] => 0
  | x :: r => uptoBulkEntry x + uptoBulkEntries r
def uptoBulkEntry {H : Type} : Lit × DataW H → Nat
  | (.string bytes, d) => bytes.length + uptoBulk d + 1
  | (_, d) => uptoBulk d + 1
 end
def uptoSmall : (H : Type) → List (DataW H) → Bool := fun _ ds => decide (uptoBulkAll ds ≤ 1048576)
def OpenSpec.upto (s : _root_.Go.ChangeSpec) : _root_.Go.OpenSpec := { _root_.Go.OpenSpec.ofChange s with cond := some uptoSmall }

/-- 'refmeshlaw55.ObserverReaches', WHERE WHAT IT READS IS OF BULK AT MOST 1048576: true; the input reads as it did. -/
def observerReachesUptoRow : OpenClaim := { program := "ytfhoecgiahpddaagreat", sum := "2b6e4a096cdcaca0d19ee1a433efc7f396de0c3039b79fa9658807e839446494", func := "refmesh/refmeshlaw55.ObserverReaches", spec := "observerReaches", unfollowed := true, recurses := true, plainKeys := false, apart := false, narrowed := true }
def ObserverReachesUptoSaid : Prop := observerReachesUptoRow.holds Tryz.pinned (OpenSpec.upto observerReachesSpec)

/-- 'refmeshlaw55.ObserverGraphs', WHERE WHAT IT READS IS OF BULK AT MOST 1048576: true; the input reads as it did. -/
def observerGraphsUptoRow : OpenClaim := { program := "ytfhoecgiahpddaagreat", sum := "2b6e4a096cdcaca0d19ee1a433efc7f396de0c3039b79fa9658807e839446494", func := "refmesh/refmeshlaw55.ObserverGraphs", spec := "observerGraphs", unfollowed := true, recurses := true, plainKeys := false, apart := false, narrowed := true }
def ObserverGraphsUptoSaid : Prop := observerGraphsUptoRow.holds Tryz.pinned (OpenSpec.upto observerGraphsSpec)

/-- 'refmeshlaw55.ObserverPaths', WHERE WHAT IT READS IS OF BULK AT MOST 1048576: true; the input reads as it did. -/
def observerPathsUptoRow : OpenClaim := { program := "ytfhoecgiahpddaagreat", sum := "2b6e4a096cdcaca0d19ee1a433efc7f396de0c3039b79fa9658807e839446494", func := "refmesh/refmeshlaw55.ObserverPaths", spec := "observerPaths", unfollowed := true, recurses := true, plainKeys := false, apart := false, narrowed := true }
def ObserverPathsUptoSaid : Prop := observerPathsUptoRow.holds Tryz.pinned (OpenSpec.upto observerPathsSpec)

/-- 'refmeshlaw55.ObserverJudges', WHERE WHAT IT READS IS OF BULK AT MOST 1048576: true; the input reads as it did. -/
def observerJudgesUptoRow : OpenClaim := { program := "ytfhoecgiahpddaagreat", sum := "2b6e4a096cdcaca0d19ee1a433efc7f396de0c3039b79fa9658807e839446494", func := "refmesh/refmeshlaw55.ObserverJudges", spec := "observerJudges", unfollowed := true, recurses := true, plainKeys := false, apart := false, narrowed := true }
def ObserverJudgesUptoSaid : Prop := observerJudgesUptoRow.holds Tryz.pinned (OpenSpec.upto observerJudgesSpec)

/-- 'refmeshlaw55.ObserverOrder', WHERE WHAT IT READS IS OF BULK AT MOST 1048576: true; the input reads as it did. -/
def observerOrderUptoRow : OpenClaim := { program := "ytfhoecgiahpddaagreat", sum := "2b6e4a096cdcaca0d19ee1a433efc7f396de0c3039b79fa9658807e839446494", func := "refmesh/refmeshlaw55.ObserverOrder", spec := "observerOrder", unfollowed := true, recurses := true, plainKeys := false, apart := false, narrowed := true }
def ObserverOrderUptoSaid : Prop := observerOrderUptoRow.holds Tryz.pinned (OpenSpec.upto observerOrderSpec)

/-- 'refmeshlaw55.ObserverAgreement', WHERE WHAT IT READS IS OF BULK AT MOST 1048576: true; the input reads as it did. -/
def observerAgreementUptoRow : OpenClaim := { program := "ytfhoecgiahpddaagreat", sum := "2b6e4a096cdcaca0d19ee1a433efc7f396de0c3039b79fa9658807e839446494", func := "refmesh/refmeshlaw55.ObserverAgreement", spec := "observerAgreement", unfollowed := true, recurses := true, plainKeys := false, apart := false, narrowed := true }
def ObserverAgreementUptoSaid : Prop := observerAgreementUptoRow.holds Tryz.pinned (OpenSpec.upto observerAgreementSpec)

end Rows
end Go.Proofs.YtfhoecgiahpddaaGreat
