/-
  CONTRACTS: nodes sorted by their identities.
-/
import Derived.Test.YtfhoecgiahpddaaGreatSort2
import Derived.Test.YtfhoecgiahpddaaGreatFj
set_option linter.all false
namespace Go.Mesh
theorem OSn.parts {h : Frag} {v : Value} {xs : List Nd} {M : Hp} (s : OS h 38 5 (NodeC 4398046511104) v xs M) (h0 : 0 < xs.length) : ∃ b cap us rest, v = .slice (some ⟨b, 0, none⟩) xs.length cap ∧ M = [(b, cells (us ++ rest) 38)] ∧ xs.length ≤ cap ∧ us.length + rest.length = cap * 5 ∧ Flat h 5 (NodeC 4398046511104) xs us := by
  obtain ⟨us, ⟨hu, ⟨rfl, h1, _⟩ | ⟨b, cap, rest, rfl, rfl, h2, h3⟩⟩, f⟩ := s
  · omega
  · exact ⟨b, cap, us, rest, rfl, rfl, h3, h2, f⟩
theorem OSn.make {h : Frag} {b n cap : Nat} {xs : List Nd} {us rest : List Value} (hn : n = xs.length) (hc : xs.length ≤ cap) (hl : us.length + rest.length = cap * 5) (f : Flat h 5 (NodeC 4398046511104) xs us) : OS h 38 5 (NodeC 4398046511104) (.slice (some ⟨b, 0, none⟩) n cap) xs [(b, cells (us ++ rest) 38)] := by
  subst hn
  exact ⟨us, ⟨f.length, .inr ⟨b, cap, rest, rfl, rfl, hl, hc⟩⟩, f⟩
/-- a node with its cells -/
abbrev NdC (h : Frag) := { q : Nd × List Value // NodeC 4398046511104 h q.1 q.2 ∧ q.2.length = 5 ∧ ones q.2 = true }
instance (h : Frag) : Inhabited (NdC h) := ⟨⟨(⟨(0, 0), 0, 0, []⟩, [.int .i64 0, .int .i64 0, .int .i64 0, .int .i64 0, .slice none 0 0]), ⟨none, 0, rfl, SLB.nil _ _ _ _ _ _⟩, rfl, rfl⟩⟩
theorem ndc_of {h : Frag} : ∀ {xs : List Nd} {us : List Value}, Flat h 5 (NodeC 4398046511104) xs us → ∃ d : List (NdC h), d.map (·.1.1) = xs ∧ d.flatMap (·.1.2) = us
  | [], _, e => ⟨[], rfl, by cases e; rfl⟩
  | x :: xs, _, ⟨vs, ws, e1, e2, e3, e4, e5⟩ => by
    obtain ⟨d, h1, h2⟩ := ndc_of e5
    exact ⟨⟨(x, vs), e4, e2, e3⟩ :: d, by simp [h1], by simp [h2, e1]⟩
theorem ndc_flat {h : Frag} : ∀ d : List (NdC h), Flat h 5 (NodeC 4398046511104) (d.map (·.1.1)) (d.flatMap (·.1.2))
  | [] => rfl
  | q :: d => ⟨q.1.2, d.flatMap (·.1.2), rfl, q.2.2.1, q.2.2.2, q.2.1, ndc_flat d⟩
end Go.Mesh
namespace Go.Proofs.YtfhoecgiahpddaaGreat
open Go.Mesh Go.RowKit
set_option maxRecDepth 100000
set_option linter.unusedVariables false
set_option maxHeartbeats 4000000
attribute [local irreducible] WP OPS ANY ANYo LG LV FSpec PSpec QOP OPc OPw thenQ blockQ roundQ roundF retQ retM Rd At SLB OS cmpI orI cmpID namedB valB nodeB kindB validG valAux idxI findG zeroV viewOf vwAt idxOf recv flyB scionOf moveOf numberedOf idOf valueOf mget mput localB carriedB stubOf followF followOf flOf flightsOf flPre setL minusL compactL putI
theorem sortNd_s {h : Frag} {p : Option Addr} {c : Nat} {xs : List Nd} {M : Hp} (hs : OS h 38 5 (NodeC 4398046511104) (.slice p xs.length c) xs M) (hxl : xs.length ≤ 4398046511104) : FSpec Tryz.prog 80 #[.slice p xs.length c, .func (.func 81) #[] #[]] h M
    (fun h' L' v => h' = h ∧ v = .tuple #[] ∧ ∃ ys : List Nd, ys.Perm xs ∧ ys.Pairwise (fun x y => ¬ cmpID y.id x.id < 0) ∧ OS h 38 5 (NodeC 4398046511104) (.slice p ys.length c) ys L') := by
  by_cases h0 : 0 < xs.length
  · obtain ⟨b, cap, us, rest, e, rfl, hcap, hrl, hf⟩ := OSn.parts hs h0
    cases e
    obtain ⟨d, rfl, rfl⟩ := ndc_of hf
    have hdl : (d.map (·.1.1)).length = d.length := List.length_map _
    have h1 := sort_spec (α := NdC h) (P := Tryz.prog) (ρ := Tryz.sortNd_ren) (k := 5) (enc := fun q => q.1.2) (cf := fun q r => cmpID q.1.1.id r.1.1.id) (e := 38) (b := b) (cap := c) (h := h) Tryz.sortNd Tryz.isAgg38 Tryz.sizeOf38 (fun q => q.2.2.1) (fun q v hv => ones_mem q.2.2.2 v hv)
      { irrefl := fun x => SWO_cmp.irrefl _, trans := fun x y z => SWO_cmp.trans _ _ _, ntrans := fun x y z => SWO_cmp.ntrans _ _ _ } (g := 81) (cal rfl) (fun x y => compare_s x.2.1 y.2.1) d rest (by omega)
    rw [hdl]
    refine FSpec.mono h1 fun h' L' v _ ⟨e1, e2, d', hp, hpw, e3⟩ => ⟨e1, e2, d'.map (·.1.1), hp.map _, List.pairwise_map.2 hpw, ?_⟩
    subst e3
    have hl := hp.length_eq
    have hf' := ndc_flat d'
    have hl1 := hf.length
    have hl2 := hf'.length
    simp only [List.length_map] at hl1 hl2 ⊢
    refine OSn.make (by simp) (by simp; omega) (by omega) hf'
  · have hx : xs = [] := List.eq_nil_of_length_eq_zero (by omega)
    subst hx
    refine FSpec.mono (sort_none Tryz.sortNd p c (.func (.func 81) #[] #[]) h M) fun h' L' v _ ⟨e1, e2, e3⟩ => ⟨e1, e2, [], List.Perm.refl _, List.Pairwise.nil, ?_⟩
    subst e3; exact hs
end Go.Proofs.YtfhoecgiahpddaaGreat
