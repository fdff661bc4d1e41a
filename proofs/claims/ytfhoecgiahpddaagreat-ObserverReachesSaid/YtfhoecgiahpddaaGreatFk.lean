/-
  CONTRACTS: identity.Set, Minus.
-/
import Derived.Test.YtfhoecgiahpddaaGreatSort2
import Derived.Test.YtfhoecgiahpddaaGreatFj
set_option linter.all false
namespace Go.Proofs.YtfhoecgiahpddaaGreat
open Go.Mesh Go.RowKit
set_option maxRecDepth 100000
set_option linter.unusedVariables false
set_option maxHeartbeats 4000000
attribute [local irreducible] WP OPS ANY ANYo LG LV FSpec PSpec QOP OPc OPw thenQ blockQ roundQ roundF retQ retM Rd At SLB OS cmpI orI cmpID namedB valB nodeB kindB validG valAux idxI findG zeroV viewOf vwAt idxOf recv flyB scionOf moveOf numberedOf idOf valueOf mget mput localB carriedB stubOf followF followOf flOf flightsOf flPre setL minusL compactL putI
theorem sortID_s {h : Frag} {p : Option Addr} {c g : Nat} {xs : List ID} {M : Hp} (hs : OS h 35 2 IDC (.slice p xs.length c) xs M) (hxl : xs.length ≤ 4398046511104) (hg : callOk Tryz.prog g = true)
    (hc : ∀ x y, PSpec Tryz.prog g #[.agg (idc x).toArray, .agg (idc y).toArray] h (fun _ u => u = .int .i64 (cmpID x y))) : FSpec Tryz.prog 84 #[.slice p xs.length c, .func (.func g) #[] #[]] h M
    (fun h' L' v => h' = h ∧ v = .tuple #[] ∧ ∃ ys : List ID, ys.Perm xs ∧ ys.length = xs.length ∧ ys.Pairwise (fun x y => ¬ cmpID y x < 0) ∧ OS h 35 2 IDC (.slice p xs.length c) ys L') := by
  by_cases h0 : 0 < xs.length
  · obtain ⟨b, cap, rest, e, rfl, hcap, hrl⟩ := hs.parts h0
    cases e
    have h1 := sort_spec (P := Tryz.prog) (ρ := Tryz.sortID_ren) (k := 2) (enc := idc) (cf := cmpID) (e := 35) (b := b) (cap := c) Tryz.sortID Tryz.isAgg35 Tryz.sizeOf35 (fun _ => rfl) (fun x v hv => by simp [idc] at hv; rcases hv with rfl | rfl <;> rfl) SWO_cmp hg hc xs rest (by omega)
    refine FSpec.mono h1 fun h' L' v _ ⟨e1, e2, d', hp, hpw, e3⟩ => ⟨e1, e2, d', hp, hp.length_eq, hpw, ?_⟩
    subst e3
    have hl := hp.length_eq
    have hfl : (flatI d').length = (flatI xs).length := by rw [flatI_length, flatI_length, hl]
    exact OS.make hl.symm (by omega) (by omega)
  · have hx : xs = [] := List.eq_nil_of_length_eq_zero (by omega)
    subst hx
    refine FSpec.mono (sort_none Tryz.sortID p c (.func (.func g) #[] #[]) h M) fun h' L' v _ ⟨e1, e2, e3⟩ => ⟨e1, e2, [], List.Perm.refl _, rfl, List.Pairwise.nil, ?_⟩
    subst e3; exact hs
theorem set_s {h : Frag} {a : Value} {xs : List ID} (hx : SL h 2 IDC a xs) : FSpec Tryz.prog 42 #[a] h [] (fun h' L' v => ∃ p c, v = .slice p (setL xs).length c ∧ OS h' 35 2 IDC (.slice p (setL xs).length c) (setL xs) L') := by
  have hxl := hx.le
  obtain ⟨p, cap, rfl⟩ := hx.slice
  refine spec_of (vs := [.slice p xs.length cap]) Tryz.func42 Tryz.ntmps42 rfl rfl rfl ?_
  (focus (refine WP_seq ?_; refine R_region ?_; refine S_q rfl rfl rfl (Q_assign rfl rfl) ?_; refine OPS_nil ?_; refine then_n ?_; refine WP_seq ?_; refine R_region ?_; refine S_q rfl rfl rfl (Q_move rfl rfl) ?_; refine S_w rfl rfl rfl (W_callF [] _ (cloneID_s (by assumption)) rfl rfl ⟨_, _, rfl, rfl, rfl⟩ (cal rfl) rfl ?_); rintro h0_1 m0_1 _ l0_1 ⟨p0_1, q0_1, rfl, o0_1⟩; replace hx := hx.up l0_1; refine S_q rfl rfl rfl (Q_assign rfl rfl) ?_; refine OPS_nil ?_; refine then_n ?_; refine WP_seq ?_; refine R_region ?_; refine S_q rfl rfl rfl (Q_move rfl rfl) ?_; refine S_w rfl rfl rfl (W_callF [] _ (sortID_s (by assumption) (by omega) (cal rfl) (fun _ _ => compareID_s _ _ _)) rfl rfl ⟨_, _, rfl, ⟨_, _, rfl, rfl, rfl⟩, rfl⟩ (cal rfl) rfl ?_); rintro h0_2 m0_2 _ l0_2 ⟨e0_2, rfl, ys0_2, hp0_2, hn0_2, hs0_2, o0_2⟩; replace o0_1 := o0_1.up l0_2; replace hx := hx.up l0_2; replace o0_2 := o0_2.up l0_2; refine OPS_nil ?_; refine then_n ?_; refine WP_seq ?_; refine R_region ?_; refine S_q rfl rfl rfl (Q_move rfl rfl) ?_; refine S_w rfl rfl rfl (W_callF [] _ (compact_s (by assumption) (by omega)) rfl rfl ⟨_, _, rfl, rfl, rfl⟩ (cal rfl) rfl ?_); rintro h0_3 m0_3 _ l0_3 ⟨e0_3, p0_3, q0_3, rfl, o0_3⟩; replace o0_1 := o0_1.up l0_3; replace hx := hx.up l0_3; replace o0_2 := o0_2.up l0_3; refine S_q rfl rfl rfl (Q_assign rfl rfl) ?_; refine OPS_nil ?_; refine then_n ?_; refine WP_ret ?_))
  rw [compact_set hp0_2 hs0_2] at o0_3
  rw [compact_set hp0_2 hs0_2]
  exact ret_q m0_3 (.inl rfl) rfl ⟨_, _, rfl, rfl, rfl⟩ (by repeat' (first | exact List.Sublist.refl _ | exact List.sublist_append_left _ _ | exact List.nil_sublist _ | apply List.Sublist.cons₂ | apply List.Sublist.cons)) ⟨_, _, rfl, o0_3⟩
theorem minus1_s {h : Frag} {a : Value} {b : Nat} {xs : List ID} {x : ID} (ha : At h b 0 [a]) (hx : SL h 2 IDC a xs) : PSpec Tryz.prog 89 #[.agg (idc x).toArray, ptr b 0] h (fun _ v => v = .bool (decide (x ∈ xs))) := by
  obtain ⟨x1, x2⟩ := x
  refine pspec_of (vs := [.agg (idc (x1, x2)).toArray, ptr b 0]) Tryz.func89 Tryz.ntmps89 rfl rfl ?_
  (focus (refine WP_seq ?_; refine R_region ?_; refine S_c rfl rfl rfl (C_box rfl rfl ?_); intro b0_1; refine S_q rfl rfl rfl (Q_assign rfl rfl) ?_; refine OPS_nil ?_; refine then_n ?_; refine WP_seq ?_; refine R_region ?_; refine S_load rfl rfl rfl rfl rfl ?_; refine L_one (Rd.pers (by assumption)) (ty rfl) ?_; refine S_load rfl rfl rfl rfl rfl ?_; refine L_agg (Rd.own m0) (ty rfl) (by first | rfl | assumption) ?_; refine S_c rfl rfl rfl (C_callv (has_s (x := (_, _)) (by assumption)) rfl rfl ⟨_, _, rfl, ⟨_, _, rfl, rfl, rfl⟩, rfl⟩ (cal rfl) ?_); refine S_q rfl rfl rfl (Q_assign rfl rfl) ?_; refine OPS_nil ?_; refine then_n ?_; refine WP_ret ?_))
  refine pret (.inl rfl) rfl ⟨_, _, rfl, rfl, rfl⟩ ?_
  rfl
theorem minus_s {h : Frag} {a b : Value} {xs ys : List ID} (hx : SL h 2 IDC a xs) (hy : SL h 2 IDC b ys) : FSpec Tryz.prog 41 #[a, b] h [] (fun h' L' v => ∃ p c, v = .slice p (minusL xs ys).length c ∧ OS h' 35 2 IDC (.slice p (minusL xs ys).length c) (minusL xs ys) L') := by
  obtain ⟨pa, ca, rfl⟩ := hx.slice
  obtain ⟨pb, cb, rfl⟩ := hy.slice
  refine spec_of (vs := [.slice pa xs.length ca, .slice pb ys.length cb]) Tryz.func41 Tryz.ntmps41 rfl rfl rfl ?_
  (focus (refine WP_seq ?_; refine R_region ?_; refine S_c rfl rfl rfl (C_box1 rfl rfl rfl ?_); intro b0_1; refine S_q rfl rfl rfl (Q_assign rfl rfl) ?_; refine OPS_nil ?_; refine then_n ?_; refine WP_seq ?_; refine R_region ?_; refine S_q rfl rfl rfl (Q_move rfl rfl) ?_; refine S_w rfl rfl rfl (W_callF [] _ (set_s (by assumption)) rfl rfl ⟨_, _, rfl, rfl, rfl⟩ (cal rfl) rfl ?_); rintro h0_2 m0_2 _ l0_2 ⟨p0_2, q0_2, rfl, o0_2⟩; replace hx := hx.up l0_2; replace hy := hy.up l0_2; refine S_q rfl rfl rfl (Q_makeFunc rfl rfl ⟨_, _, rfl, rfl, rfl⟩) ?_))
  have hsl := setL_length xs
  have hxl := hx.le
  refine OPS_keepM m0_2 [_] [] rfl fun h2 l2 k2 => ?_
  have a2 := at_of_keep k2
  have hy2 := hy.up l2
  have o2 := o0_2.up l2
  refine S_w rfl rfl rfl (W_callF (M := m0_2) [] _ (deleteFunc_s (cap := [ptr b0_1 0]) (p := fun x => decide (x ∈ ys)) o2 (by omega) (cal rfl) fun h' hl x => minus1_s (a2.mono hl) (hy2.up hl)) rfl rfl ⟨_, _, rfl, ⟨_, _, rfl, rfl, rfl⟩, rfl⟩ (cal rfl) rfl ?_)
  rintro h3 M3 _ l3 ⟨e3, p3, c3, rfl, o3⟩
  (focus (refine S_q rfl rfl rfl (Q_assign rfl rfl) ?_; refine OPS_nil ?_; refine then_n ?_; refine WP_ret ?_))
  unfold minusL
  exact ret_q M3 (.inl rfl) rfl ⟨_, _, rfl, rfl, rfl⟩ (by repeat' (first | exact List.Sublist.refl _ | exact List.sublist_append_left _ _ | exact List.nil_sublist _ | apply List.Sublist.cons₂ | apply List.Sublist.cons)) ⟨_, _, rfl, o3⟩
end Go.Proofs.YtfhoecgiahpddaaGreat
