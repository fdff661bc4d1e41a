/-
  Part B of the proof's ground: Fa, Fb, Fc, Fd, Obs, Fe, Ff, Fg, Fh, Rules5, Shelf, Sort, Sort2.
-/
import Derived.Shelf.SlSortCmp.WholeK
import Derived.Shelf.SlSortCmp.NoneTotal
import Derived.Test.YtfhoecgiahpddaaGreatMoA
/-
  CONTRACTS: comparisons of numbers and identities.
-/
set_option linter.all false
namespace Go.Proofs.YtfhoecgiahpddaaGreat
open Go.Mesh Go.RowKit
set_option maxRecDepth 100000
set_option linter.unusedVariables false
set_option maxHeartbeats 4000000
attribute [local irreducible] WP OPS ANY ANYo LG LV FSpec PSpec QOP OPc OPw thenQ blockQ roundQ roundF retQ retM Rd At SLB OS 
theorem isNaN_s (h : Frag) (a : Int) : PSpec Tryz.prog 149 #[.int .i64 a] h (fun _ v => v = .bool false) := by
  refine pspec_of (vs := [.int .i64 a]) Tryz.func149 Tryz.ntmps149 rfl rfl ?_
  (focus (refine Wr ?_; refine Sm rfl ?_; refine On ?_; refine Wr ?_; refine Sm rfl ?_; refine Sm rfl ?_; refine Sc rfl rfl rfl rfl rfl rfl rfl ?_; refine Sm rfl ?_; refine On ?_; refine WP_ret ?_))
  exact pret (.inl rfl) rfl ⟨_, _, rfl, rfl, rfl⟩ (by simp [resOf])
def cmpI (a b : Int) : Int := if a < b then -1 else if b < a then 1 else 0
theorem cmpI_s (h : Frag) (a b : Int) : PSpec Tryz.prog 123 #[.int .i64 a, .int .i64 b] h (fun _ v => v = .int .i64 (cmpI a b)) := by
  refine pspec_of (vs := [.int .i64 a, .int .i64 b]) Tryz.func123 Tryz.ntmps123 rfl rfl ?_
  (focus (refine Wr ?_; refine Sm rfl ?_; refine On ?_; refine Wr ?_; refine Sm rfl ?_; refine S_c rfl rfl rfl (C_callv (isNaN_s _ _) rfl rfl ⟨_, _, rfl, rfl, rfl⟩ (cal rfl) ?_); refine Sm rfl ?_; refine On ?_; refine Wr ?_; refine Sm rfl ?_; refine S_c rfl rfl rfl (C_callv (isNaN_s _ _) rfl rfl ⟨_, _, rfl, rfl, rfl⟩ (cal rfl) ?_); refine Sm rfl ?_; refine On ?_; refine WP_seq ?_; refine Wr ?_; refine Sm rfl ?_; refine On ?_; refine cond_f rfl ?_; refine WP_skip ?_; refine then_n ?_; refine WP_seq ?_; refine Wr ?_; refine Sm rfl ?_; refine On ?_; refine cond_f rfl ?_; refine WP_skip ?_; refine then_n ?_; refine WP_seq ?_; refine Wr ?_; refine Sm rfl ?_; refine Sm rfl ?_; refine Sc rfl rfl rfl rfl rfl rfl rfl ?_; refine On ?_; refine WP_cond rfl (fun c2_1 => ?_) (fun c2_1 => ?_) <;> (try simp at c2_1); (focus (refine Wr ?_; refine Sm rfl ?_; refine On ?_; refine WP_ret ?_; refine then_r ?_)); rotate_left 1; (focus (refine WP_skip ?_; refine then_n ?_; refine WP_seq ?_; refine Wr ?_; refine Sm rfl ?_; refine Sm rfl ?_; refine Sc rfl rfl rfl rfl rfl rfl rfl ?_; refine On ?_; refine WP_cond rfl (fun c2_2 => ?_) (fun c2_2 => ?_) <;> (try simp at c2_2); (focus (refine Wr ?_; refine Sm rfl ?_; refine On ?_; refine WP_ret ?_; refine then_r ?_)); rotate_left 1; (focus (refine WP_skip ?_; refine then_n ?_; refine Wr ?_; refine Sm rfl ?_; refine On ?_; refine WP_ret ?_)); rotate_left 1)); rotate_left 2))
  all_goals refine pret (.inl rfl) rfl ⟨_, _, rfl, rfl, rfl⟩ ?_
  all_goals (simp [resOf, cmpI]; omega)
def orI : List Int → Int
  | [] => 0
  | x :: xs => if x ≠ 0 then x else orI xs
theorem drop_get {α : Type} {xs : List α} {k : Nat} {x : α} (hx : xs[k]? = some x) : xs.drop k = x :: xs.drop (k + 1) := by
  obtain ⟨h1, h2⟩ := List.getElem?_eq_some_iff.1 hx
  rw [List.drop_eq_getElem_cons h1, h2]
theorem get_of {α : Type} {xs : List α} {k : Nat} (h : k < xs.length) : ∃ x, xs[k]? = some x := ⟨xs[k], by simp [h]⟩
theorem lt_of_get {α : Type} {xs : List α} {k : Nat} {x : α} (hx : xs[k]? = some x) : k < xs.length := (List.getElem?_eq_some_iff.1 hx).1
attribute [local irreducible] cmpI orI
theorem or_s {h : Frag} {l : Value} {xs : List Int} (hs : SL h 1 IntC l xs) : PSpec Tryz.prog 122 #[l] h (fun _ v => v = .int .i64 (orI xs)) := by
  have hl := hs.le
  refine pspec_of (vs := [l]) Tryz.func122 Tryz.ntmps122 rfl rfl ?_
  (focus (refine Wr ?_; refine Sm rfl ?_; refine On ?_; refine Wr ?_; refine Sm rfl ?_; refine On ?_; refine WP_seq ?_; refine Wr ?_; refine Sm rfl ?_; refine S_q rfl rfl rfl (Q_lenS rfl rfl rfl rfl rfl rfl ‹_›) ?_; refine Sm rfl ?_; refine On ?_; refine WP_block ?_))
  (refine WP_loopC (α := Nat) [7, 6, 3] (fun (k : Nat) => xs.length - k) (fun (k : Nat) => [(8, .int .i64 k)]) (fun hh (k : Nat) => hh = h ∧ k ≤ xs.length ∧ orI (xs.drop k) = orI xs) 0 ⟨_, _, rfl, ⟨_, _, rfl, ⟨_, _, rfl, rfl, rfl⟩, rfl⟩, rfl⟩ (by repeat' first | exact trivial | refine ⟨rfl, ?_⟩) ?_ ?_)
  · exact ⟨rfl, Nat.zero_le _, rfl⟩
  rintro h1 k _ ⟨rfl, hk, hor⟩
  by_cases hlt : k < xs.length
  · obtain ⟨x, hx⟩ := get_of hlt
    have hod := drop_get hx
    (focus (refine Wr ?_; refine Sc rfl rfl rfl rfl rfl rfl rfl ?_; refine On ?_; refine WP_seq ?_; refine WP_cond rfl (fun c2_1 => ?_) (fun c2_1 => ?_) <;> (try simp at c2_1); (focus (refine WP_skip ?_; refine then_n ?_; refine WP_seq ?_; refine WP_block ?_; refine Wr ?_; refine S_q rfl rfl rfl (Q_indexS ‹_› ‹_› rfl rfl rfl (elm rfl) rfl) ?_; refine S_load rfl rfl rfl rfl rfl ?_; refine L_el1 ‹_› ‹_› (ty rfl) ?_; rintro _ ⟨⟩; refine Sm rfl ?_; refine On ?_; refine Wr ?_; refine Sm rfl ?_; refine Sm rfl ?_; refine Sc rfl rfl rfl rfl rfl rfl rfl ?_; refine On ?_; refine WP_cond rfl (fun c2_3 => ?_) (fun c2_3 => ?_) <;> (try simp at c2_3); (focus (refine Wr ?_; refine Sm rfl ?_; refine Sm rfl ?_; refine On ?_; refine WP_ret ?_; refine block_r ?_; refine then_r ?_; refine roundF_r ?_; refine block_r ?_; refine then_r ?_)); rotate_left 1; (focus (refine WP_skip ?_; refine block_n ?_; refine then_n ?_; refine R_region ?_; refine S_q rfl rfl rfl (Q_add rfl rfl rfl (by omega)) ?_; refine Sm rfl ?_; refine OPS_nil ?_)); rotate_left 1)); rotate_left 2; (focus (exfalso; omega))))
    · refine pret (.inl rfl) rfl ⟨_, _, rfl, rfl, rfl⟩ ?_
      rw [← hor, hod]; simp_all [resOf, orI]
    · refine roundF_n (k + 1) (by omega) ⟨rfl, by omega, ?_⟩ (List.Sublist.refl _) ⟨rfl, rfl, rfl, rfl, trivial⟩
      rw [← hor, hod]; simp_all [orI]
  · have hge : k = xs.length := by omega
    subst hge
    (focus (refine Wr ?_; refine Sc rfl rfl rfl rfl rfl rfl rfl ?_; refine On ?_; refine WP_seq ?_; refine WP_cond rfl (fun c3_1 => ?_) (fun c3_1 => ?_) <;> (try simp at c3_1); refine WP_exit ?_; refine then_e ?_; refine roundF_e ?_; refine block_e ?_; refine then_n ?_; refine Wr ?_; refine Sm rfl ?_; refine Sm rfl ?_; refine On ?_; refine WP_ret ?_))
    · refine pret (.inl rfl) rfl ⟨_, _, rfl, rfl, rfl⟩ ?_
      rw [← hor]; simp [resOf, orI]
/-- the order of identities -/
def cmpID (a b : ID) : Int := orI [cmpI a.1 b.1, cmpI a.2 b.2]
attribute [local irreducible] cmpID
theorem order_s (h : Frag) (a b : ID) : PSpec Tryz.prog 85 #[.agg (idc a).toArray, .agg (idc b).toArray] h (fun _ v => v = .int .i64 (cmpID a b)) := by
  refine pspec_of (vs := [.agg (idc a).toArray, .agg (idc b).toArray]) Tryz.func85 Tryz.ntmps85 rfl rfl ?_
  (focus (refine Wr ?_; refine S_c rfl rfl rfl (C_box rfl rfl ?_); intro b7_1; refine S_c rfl rfl rfl (C_box rfl rfl ?_); intro b7_2; refine Sm rfl ?_; refine On ?_; refine WP_seq ?_; refine R_draw (n := 13) mixed rfl ?_; refine A_at 0 rfl rfl ?_; refine A_q (m' := 1) rfl rfl rfl (Q_fieldAddr rfl rfl (fld rfl rfl)) rfl (by decide +kernel) ?_; refine A_at 1 rfl rfl ?_; refine A_load (m' := 3) rfl rfl rfl rfl rfl rfl (by decide +kernel) ?_; refine L_fld (Rd.own m1) (ty rfl) rfl ?_; refine A_at 2 rfl rfl ?_; refine A_q (m' := 7) rfl rfl rfl (Q_fieldAddr rfl rfl (fld rfl rfl)) rfl (by decide +kernel) ?_; refine A_at 3 rfl rfl ?_; refine A_load (m' := 15) rfl rfl rfl rfl rfl rfl (by decide +kernel) ?_; refine L_fld (Rd.own m0) (ty rfl) rfl ?_; refine A_at 5 rfl rfl ?_; refine A_q (m' := 47) rfl rfl rfl (Q_fieldAddr rfl rfl (fld rfl rfl)) rfl (by decide +kernel) ?_; refine A_at 6 rfl rfl ?_; refine A_load (m' := 111) rfl rfl rfl rfl rfl rfl (by decide +kernel) ?_; refine L_fld (Rd.own m1) (ty rfl) rfl ?_; refine A_at 7 rfl rfl ?_; refine A_q (m' := 239) rfl rfl rfl (Q_fieldAddr rfl rfl (fld rfl rfl)) rfl (by decide +kernel) ?_; refine A_at 8 rfl rfl ?_; refine A_load (m' := 495) rfl rfl rfl rfl rfl rfl (by decide +kernel) ?_; refine L_fld (Rd.own m0) (ty rfl) rfl ?_; refine A_at 4 rfl rfl ?_; refine A_c (m' := 511) rfl rfl rfl rfl (by decide +kernel) (C_callv (cmpI_s _ _ _) rfl rfl ⟨_, _, rfl, ⟨_, _, rfl, rfl, rfl⟩, rfl⟩ (cal rfl) ?_); refine A_at 9 rfl rfl ?_; refine A_c (m' := 1023) rfl rfl rfl rfl (by decide +kernel) (C_callv (cmpI_s _ _ _) rfl rfl ⟨_, _, rfl, ⟨_, _, rfl, rfl, rfl⟩, rfl⟩ (cal rfl) ?_); refine A_at 10 rfl rfl ?_; refine A_c (m' := 2047) rfl rfl rfl rfl (by decide +kernel) (C_buildSlice rfl (elm rfl) (zer rfl) rfl ⟨_, _, _, rfl, rfl, rfl, rfl, ⟨_, _, _, rfl, rfl, rfl, rfl, rfl, rfl⟩, rfl⟩ rfl rfl ?_); intro b7_3))
  refine A_at 11 rfl rfl ?_
  refine A_callK (fun h' hl hb => or_s (xs := [cmpI a.1 b.1, cmpI a.2 b.2]) (SLB.of_block (us := [.int .i64 (cmpI a.1 b.1), .int .i64 (cmpI a.2 b.2)]) (rest := []) hb ⟨_, _, rfl, rfl, rfl, rfl, ⟨_, _, rfl, rfl, rfl, rfl, rfl⟩⟩ (by simp))) rfl rfl ⟨_, _, rfl, rfl, rfl⟩ (cal rfl) rfl rfl rfl rfl (by decide +kernel) ?_
  rintro h1 v _ _ rfl
  (focus (refine A_at 12 rfl rfl ?_; refine A_q (m' := 8191) rfl rfl rfl (Q_assign rfl rfl) rfl (by decide +kernel) ?_; refine A_done (by decide +kernel) ?_; refine then_n ?_; refine WP_ret ?_))
  exact pret (.inl rfl) rfl ⟨_, _, rfl, rfl, rfl⟩ (by simp [resOf, cmpID])
theorem compareID_s (h : Frag) (a b : ID) : PSpec Tryz.prog 90 #[.agg (idc a).toArray, .agg (idc b).toArray] h (fun _ v => v = .int .i64 (cmpID a b)) := by
  refine pspec_of (vs := [.agg (idc a).toArray, .agg (idc b).toArray]) Tryz.func90 Tryz.ntmps90 rfl rfl ?_
  (focus (refine Wr ?_; refine S_c rfl rfl rfl (C_box rfl rfl ?_); intro b9_1; refine S_c rfl rfl rfl (C_box rfl rfl ?_); intro b9_2; refine Sm rfl ?_; refine On ?_; refine WP_seq ?_; refine R_draw (n := 13) mixed rfl ?_; refine A_at 0 rfl rfl ?_; refine A_q (m' := 1) rfl rfl rfl (Q_fieldAddr rfl rfl (fld rfl rfl)) rfl (by decide +kernel) ?_; refine A_at 1 rfl rfl ?_; refine A_load (m' := 3) rfl rfl rfl rfl rfl rfl (by decide +kernel) ?_; refine L_fld (Rd.own m1) (ty rfl) rfl ?_; refine A_at 2 rfl rfl ?_; refine A_q (m' := 7) rfl rfl rfl (Q_fieldAddr rfl rfl (fld rfl rfl)) rfl (by decide +kernel) ?_; refine A_at 3 rfl rfl ?_; refine A_load (m' := 15) rfl rfl rfl rfl rfl rfl (by decide +kernel) ?_; refine L_fld (Rd.own m0) (ty rfl) rfl ?_; refine A_at 5 rfl rfl ?_; refine A_q (m' := 47) rfl rfl rfl (Q_fieldAddr rfl rfl (fld rfl rfl)) rfl (by decide +kernel) ?_; refine A_at 6 rfl rfl ?_; refine A_load (m' := 111) rfl rfl rfl rfl rfl rfl (by decide +kernel) ?_; refine L_fld (Rd.own m1) (ty rfl) rfl ?_; refine A_at 7 rfl rfl ?_; refine A_q (m' := 239) rfl rfl rfl (Q_fieldAddr rfl rfl (fld rfl rfl)) rfl (by decide +kernel) ?_; refine A_at 8 rfl rfl ?_; refine A_load (m' := 495) rfl rfl rfl rfl rfl rfl (by decide +kernel) ?_; refine L_fld (Rd.own m0) (ty rfl) rfl ?_; refine A_at 4 rfl rfl ?_; refine A_c (m' := 511) rfl rfl rfl rfl (by decide +kernel) (C_callv (cmpI_s _ _ _) rfl rfl ⟨_, _, rfl, ⟨_, _, rfl, rfl, rfl⟩, rfl⟩ (cal rfl) ?_); refine A_at 9 rfl rfl ?_; refine A_c (m' := 1023) rfl rfl rfl rfl (by decide +kernel) (C_callv (cmpI_s _ _ _) rfl rfl ⟨_, _, rfl, ⟨_, _, rfl, rfl, rfl⟩, rfl⟩ (cal rfl) ?_); refine A_at 10 rfl rfl ?_; refine A_c (m' := 2047) rfl rfl rfl rfl (by decide +kernel) (C_buildSlice rfl (elm rfl) (zer rfl) rfl ⟨_, _, _, rfl, rfl, rfl, rfl, ⟨_, _, _, rfl, rfl, rfl, rfl, rfl, rfl⟩, rfl⟩ rfl rfl ?_); intro b9_3))
  refine A_at 11 rfl rfl ?_
  refine A_callK (fun h' hl hb => or_s (xs := [cmpI a.1 b.1, cmpI a.2 b.2]) (SLB.of_block (us := [.int .i64 (cmpI a.1 b.1), .int .i64 (cmpI a.2 b.2)]) (rest := []) hb ⟨_, _, rfl, rfl, rfl, rfl, ⟨_, _, rfl, rfl, rfl, rfl, rfl⟩⟩ (by simp))) rfl rfl ⟨_, _, rfl, rfl, rfl⟩ (cal rfl) rfl rfl rfl rfl (by decide +kernel) ?_
  rintro h1 v _ _ rfl
  (focus (refine A_at 12 rfl rfl ?_; refine A_q (m' := 8191) rfl rfl rfl (Q_assign rfl rfl) rfl (by decide +kernel) ?_; refine A_done (by decide +kernel) ?_; refine then_n ?_; refine WP_ret ?_))
  exact pret (.inl rfl) rfl ⟨_, _, rfl, rfl, rfl⟩ (by simp [resOf, cmpID])
end Go.Proofs.YtfhoecgiahpddaaGreat
/-
  CONTRACTS: valid identities, values and nodes; nodes compared and copied; a node found.
-/
set_option linter.all false
namespace Go.Proofs.YtfhoecgiahpddaaGreat
open Go.Mesh Go.RowKit
set_option maxRecDepth 100000
set_option linter.unusedVariables false
set_option maxHeartbeats 4000000
attribute [local irreducible] WP OPS ANY ANYo LG LV FSpec PSpec QOP OPc OPw thenQ blockQ roundQ roundF retQ retM Rd At SLB OS cmpI orI cmpID
def namedB (a : ID) : Bool := decide (1 ≤ a.1 ∧ a.1 ≤ 8 ∧ 1 ≤ a.2 ∧ a.2 ≤ 1099511627775)
attribute [local irreducible] namedB
theorem encodeID_s (h : Frag) (a : ID) : PSpec Tryz.prog 152 #[.agg (idc a).toArray] h (fun _ v => ∃ u e, v = .tuple #[u, .int .i64 e] ∧ (e == 0) = namedB a) := by
  refine pspec_of (vs := [.agg (idc a).toArray]) Tryz.func152 Tryz.ntmps152 rfl rfl ?_
  (focus (refine Wr ?_; refine S_c rfl rfl rfl (C_box rfl rfl ?_); intro b0_1; refine Sm rfl ?_; refine Sm rfl ?_; refine On ?_; refine WP_seq ?_; refine Wr ?_; refine Sf rfl rfl rfl rfl rfl (fld rfl rfl) ?_; refine S_load rfl rfl rfl rfl rfl ?_; refine L_fld (Rd.own m0) (ty rfl) rfl ?_; refine Sc rfl rfl rfl rfl rfl rfl rfl ?_; refine Sm rfl ?_; refine S_gsplit rfl rfl rfl rfl (fun c0_2 => ?_) (fun c0_2 => ?_) <;> (try simp at c0_2); (focus (refine Sn rfl ?_; refine Sn rfl ?_; refine Sn rfl ?_; refine S_q rfl rfl rfl (Q_pick_t rfl rfl rfl) ?_; refine Sm rfl ?_; refine Sn rfl ?_; refine Sn rfl ?_; refine Sn rfl ?_; refine S_q rfl rfl rfl (Q_pick_t rfl rfl rfl) ?_; refine Sm rfl ?_; refine Sn rfl ?_; refine Sn rfl ?_; refine Sn rfl ?_; refine S_q rfl rfl rfl (Q_pick_t rfl rfl rfl) ?_; refine On ?_; refine cond_t rfl ?_; refine Wr ?_; refine Sm rfl ?_; refine Sm rfl ?_; refine On ?_; refine WP_ret ?_; refine then_r ?_)); rotate_left 1; (focus (refine S_gq rfl rfl rfl rfl rfl rfl (Q_fieldAddr rfl rfl (fld rfl rfl)) ?_; refine S_gload rfl rfl rfl rfl rfl rfl rfl rfl ?_; refine L_fld (Rd.own m0) (ty rfl) rfl ?_; refine S_gq rfl rfl rfl rfl rfl rfl (Q_cmp rfl rfl rfl rfl) ?_; refine S_q rfl rfl rfl (Q_pick_f rfl rfl rfl) ?_; refine Sm rfl ?_; refine S_gsplit rfl rfl rfl rfl (fun c0_3 => ?_) (fun c0_3 => ?_) <;> (try simp at c0_3); (focus (refine Sn rfl ?_; refine Sn rfl ?_; refine Sn rfl ?_; refine S_q rfl rfl rfl (Q_pick_t rfl rfl rfl) ?_; refine Sm rfl ?_; refine Sn rfl ?_; refine Sn rfl ?_; refine Sn rfl ?_; refine S_q rfl rfl rfl (Q_pick_t rfl rfl rfl) ?_; refine On ?_; refine cond_t rfl ?_; refine Wr ?_; refine Sm rfl ?_; refine Sm rfl ?_; refine On ?_; refine WP_ret ?_; refine then_r ?_)); rotate_left 1; (focus (refine S_gq rfl rfl rfl rfl rfl rfl (Q_fieldAddr rfl rfl (fld rfl rfl)) ?_; refine S_gload rfl rfl rfl rfl rfl rfl rfl rfl ?_; refine L_fld (Rd.own m0) (ty rfl) rfl ?_; refine S_gq rfl rfl rfl rfl rfl rfl (Q_cmp rfl rfl rfl rfl) ?_; refine S_q rfl rfl rfl (Q_pick_f rfl rfl rfl) ?_; refine Sm rfl ?_; refine S_gsplit rfl rfl rfl rfl (fun c0_4 => ?_) (fun c0_4 => ?_) <;> (try simp at c0_4); (focus (refine Sn rfl ?_; refine Sn rfl ?_; refine Sn rfl ?_; refine S_q rfl rfl rfl (Q_pick_t rfl rfl rfl) ?_; refine On ?_; refine cond_t rfl ?_; refine Wr ?_; refine Sm rfl ?_; refine Sm rfl ?_; refine On ?_; refine WP_ret ?_; refine then_r ?_)); rotate_left 1; (focus (refine S_gq rfl rfl rfl rfl rfl rfl (Q_fieldAddr rfl rfl (fld rfl rfl)) ?_; refine S_gload rfl rfl rfl rfl rfl rfl rfl rfl ?_; refine L_fld (Rd.own m0) (ty rfl) rfl ?_; refine S_gq rfl rfl rfl rfl rfl rfl (Q_cmp rfl rfl rfl rfl) ?_; refine S_q rfl rfl rfl (Q_pick_f rfl rfl rfl) ?_; refine On ?_; refine WP_cond rfl (fun c0_5 => ?_) (fun c0_5 => ?_) <;> (try simp at c0_5); (focus (refine Wr ?_; refine Sm rfl ?_; refine Sm rfl ?_; refine On ?_; refine WP_ret ?_; refine then_r ?_)); rotate_left 1; (focus (refine WP_skip ?_; refine then_n ?_; refine Wr ?_; refine Sf rfl rfl rfl rfl rfl (fld rfl rfl) ?_; refine S_load rfl rfl rfl rfl rfl ?_; refine L_fld (Rd.own m0) (ty rfl) rfl ?_; refine S_q rfl rfl rfl (Q_conv rfl rfl ⟨_, rfl⟩ rfl) ?_; refine S_q rfl rfl rfl (Q_shl rfl rfl rfl (fun _ => rfl)) ?_; refine Sf rfl rfl rfl rfl rfl (fld rfl rfl) ?_; refine S_load rfl rfl rfl rfl rfl ?_; refine L_fld (Rd.own m0) (ty rfl) rfl ?_; refine S_q rfl rfl rfl (Q_conv rfl rfl ⟨_, rfl⟩ rfl) ?_; refine S_q rfl rfl rfl (Q_arith rfl rfl rfl rfl) ?_; refine Sm rfl ?_; refine Sm rfl ?_; refine On ?_; refine WP_ret ?_)); rotate_left 1)); rotate_left 2)); rotate_left 3)); rotate_left 4))
  all_goals refine pret (.inl rfl) rfl ⟨_, _, rfl, ⟨_, _, rfl, rfl, rfl⟩, rfl⟩ ?_
  all_goals refine ⟨_, _, rfl, ?_⟩
  all_goals (simp_all [namedB] <;> omega)
theorem named_s (h : Frag) (a : ID) : PSpec Tryz.prog 129 #[.agg (idc a).toArray] h (fun _ v => v = .bool (namedB a)) := by
  refine pspec_of (vs := [.agg (idc a).toArray]) Tryz.func129 Tryz.ntmps129 rfl rfl ?_
  (focus (refine Wr ?_; refine S_c rfl rfl rfl (C_box rfl rfl ?_); intro b0_1; refine Sm rfl ?_; refine On ?_; refine Wr ?_; refine S_load rfl rfl rfl rfl rfl ?_; refine L_agg (Rd.own m0) (ty rfl) (by first | rfl | assumption) ?_; refine S_c rfl rfl rfl (C_call0 (encodeID_s _ (_, _)) rfl rfl ⟨_, _, rfl, rfl, rfl⟩ (cal rfl) ?_); rintro _ ⟨u0_2, e0_2, rfl, he0_2⟩; refine Sm rfl ?_; refine S_q rfl rfl rfl (Q_extract rfl rfl rfl) ?_; refine S_q rfl rfl rfl (Q_extract rfl rfl rfl) ?_; refine Sm rfl ?_; refine Sm rfl ?_; refine On ?_; refine Wr ?_; refine Sm rfl ?_; refine Sc rfl rfl rfl rfl rfl rfl rfl ?_; refine Sm rfl ?_; refine On ?_; refine WP_ret ?_))
  refine pret (.inl rfl) rfl ⟨_, _, rfl, rfl, rfl⟩ ?_
  simp_all [resOf]
def valB (v : Val) : Bool :=
  if v.1 = 0 then decide (v = (0, 0, (0, 0))) else if v.1 = 1 then decide (-2305843009213693952 ≤ v.2.1 ∧ v.2.1 ≤ 2305843009213693951 ∧ v.2.2 = (0, 0)) else if v.1 = 2 then decide (v.2.1 = 0) && namedB v.2.2 else false
attribute [local irreducible] valB
theorem validVal_s (h : Frag) (v : Val) : PSpec Tryz.prog 130 #[.agg (vlc v).toArray] h (fun _ u => u = .bool (valB v)) := by
  obtain ⟨k, n, r1, r2⟩ := v
  refine pspec_of (vs := [.agg (vlc (k, n, r1, r2)).toArray]) Tryz.func130 Tryz.ntmps130 rfl rfl ?_
  (focus (refine Wr ?_; refine S_c rfl rfl rfl (C_box rfl rfl ?_); intro b0_1; refine Sm rfl ?_; refine On ?_; refine WP_seq ?_; refine Wr ?_; refine Sf rfl rfl rfl rfl rfl (fld rfl rfl) ?_; refine S_load rfl rfl rfl rfl rfl ?_; refine L_fld (Rd.own m0) (ty rfl) rfl ?_; refine On ?_; refine WP_block ?_; refine Wr ?_; refine Sc rfl rfl rfl rfl rfl rfl rfl ?_; refine Sm rfl ?_; refine On ?_; refine WP_cond rfl (fun c0_2 => ?_) (fun c0_2 => ?_) <;> (try simp at c0_2); (focus (refine Wr ?_; refine S_load rfl rfl rfl rfl rfl ?_; refine L_agg (Rd.own m0) (ty rfl) (by first | rfl | assumption) ?_; refine S_q rfl rfl rfl (Q_build rfl (by decide +kernel) (zer rfl) rfl rfl) ?_; refine S_q rfl rfl rfl (Q_eqV eqVal rfl rfl rfl rfl rfl) ?_; refine Sm rfl ?_; refine On ?_; refine WP_ret ?_; refine block_r ?_; refine then_r ?_)); rotate_left 1; (focus (refine Wr ?_; refine Sc rfl rfl rfl rfl rfl rfl rfl ?_; refine Sm rfl ?_; refine On ?_; refine WP_cond rfl (fun c0_3 => ?_) (fun c0_3 => ?_) <;> (try simp at c0_3); (focus (refine Wr ?_; refine Sf rfl rfl rfl rfl rfl (fld rfl rfl) ?_; refine S_load rfl rfl rfl rfl rfl ?_; refine L_fld (Rd.own m0) (ty rfl) rfl ?_; refine Sc rfl rfl rfl rfl rfl rfl rfl ?_; refine Sm rfl ?_; refine S_gsplit rfl rfl rfl rfl (fun c0_4 => ?_) (fun c0_4 => ?_) <;> (try simp at c0_4); (focus (refine S_gq rfl rfl rfl rfl rfl rfl (Q_fieldAddr rfl rfl (fld rfl rfl)) ?_; refine S_gload rfl rfl rfl rfl rfl rfl rfl rfl ?_; refine L_fld (Rd.own m0) (ty rfl) rfl ?_; refine S_gq rfl rfl rfl rfl rfl rfl (Q_cmp rfl rfl rfl rfl) ?_; refine S_q rfl rfl rfl (Q_pick_t rfl rfl rfl) ?_; refine Sm rfl ?_; refine S_gsplit rfl rfl rfl rfl (fun c0_5 => ?_) (fun c0_5 => ?_) <;> (try simp at c0_5); (focus (refine S_gq rfl rfl rfl rfl rfl rfl (Q_fieldAddr rfl rfl (fld rfl rfl)) ?_; refine S_gload rfl rfl rfl rfl rfl rfl rfl rfl ?_; refine L_sub (Rd.own m0) (ty rfl) rfl ?_; refine S_gq rfl rfl rfl rfl rfl rfl (Q_build rfl (by decide +kernel) (zer rfl) rfl rfl) ?_; refine S_gq rfl rfl rfl rfl rfl rfl (Q_eqI eqID rfl rfl rfl rfl rfl) ?_; refine S_q rfl rfl rfl (Q_pick_t rfl rfl rfl) ?_; refine Sm rfl ?_; refine On ?_; refine WP_ret ?_; refine block_r ?_; refine then_r ?_)); rotate_left 1; (focus (refine Sn rfl ?_; refine Sn rfl ?_; refine Sn rfl ?_; refine Sn rfl ?_; refine S_q rfl rfl rfl (Q_pick_f rfl rfl rfl) ?_; refine Sm rfl ?_; refine On ?_; refine WP_ret ?_; refine block_r ?_; refine then_r ?_)); rotate_left 1)); rotate_left 2; (focus (refine Sn rfl ?_; refine Sn rfl ?_; refine Sn rfl ?_; refine S_q rfl rfl rfl (Q_pick_f rfl rfl rfl) ?_; refine Sm rfl ?_; refine Sn rfl ?_; refine Sn rfl ?_; refine Sn rfl ?_; refine Sn rfl ?_; refine S_q rfl rfl rfl (Q_pick_f rfl rfl rfl) ?_; refine Sm rfl ?_; refine On ?_; refine WP_ret ?_; refine block_r ?_; refine then_r ?_)); rotate_left 1)); rotate_left 3; (focus (refine Wr ?_; refine Sc rfl rfl rfl rfl rfl rfl rfl ?_; refine Sm rfl ?_; refine On ?_; refine WP_cond rfl (fun c0_6 => ?_) (fun c0_6 => ?_) <;> (try simp at c0_6); (focus (refine Wr ?_; refine Sf rfl rfl rfl rfl rfl (fld rfl rfl) ?_; refine S_load rfl rfl rfl rfl rfl ?_; refine L_fld (Rd.own m0) (ty rfl) rfl ?_; refine Sc rfl rfl rfl rfl rfl rfl rfl ?_; refine Sm rfl ?_; refine S_gsplit rfl rfl rfl rfl (fun c0_7 => ?_) (fun c0_7 => ?_) <;> (try simp at c0_7); (focus (refine S_gq rfl rfl rfl rfl rfl rfl (Q_fieldAddr rfl rfl (fld rfl rfl)) ?_; refine S_gload rfl rfl rfl rfl rfl rfl rfl rfl ?_; refine L_sub (Rd.own m0) (ty rfl) rfl ?_; refine S_gc rfl rfl rfl rfl rfl rfl (C_callv (named_s _ (_, _)) rfl rfl ⟨_, _, rfl, rfl, rfl⟩ (cal rfl) ?_); refine S_q rfl rfl rfl (Q_pick_t rfl rfl rfl) ?_; refine Sm rfl ?_; refine On ?_; refine WP_ret ?_; refine block_r ?_; refine then_r ?_)); rotate_left 1; (focus (refine Sn rfl ?_; refine Sn rfl ?_; refine Sn rfl ?_; refine S_q rfl rfl rfl (Q_pick_f rfl rfl rfl) ?_; refine Sm rfl ?_; refine On ?_; refine WP_ret ?_; refine block_r ?_; refine then_r ?_)); rotate_left 1)); rotate_left 2; (focus (refine WP_skip ?_; refine block_n ?_; refine then_n ?_; refine Wr ?_; refine Sm rfl ?_; refine On ?_; refine WP_ret ?_)); rotate_left 1)); rotate_left 3)); rotate_left 6))
  all_goals refine pret (.inl rfl) rfl ⟨_, _, rfl, rfl, rfl⟩ ?_
  all_goals (simp_all [resOf, valB] <;> omega)
theorem take_eq {α : Type} {xs ys : List α} {k : Nat} {x : α} (h : xs.take k = ys.take k) (hx : xs[k]? = some x) (hy : ys[k]? = some x) : xs.take (k + 1) = ys.take (k + 1) := by
  rw [List.take_add_one, List.take_add_one, h, hx, hy]
theorem eqVals_s {h : Frag} {a b : Value} {xs ys : List Val} (hx : SL h 4 ValC a xs) (hy : SL h 4 ValC b ys) : PSpec Tryz.prog 96 #[a, b] h (fun _ v => v = .bool (decide (xs = ys))) := by
  have hxl := hx.le
  have hyl := hy.le
  refine pspec_of (vs := [a, b]) Tryz.func96 Tryz.ntmps96 rfl rfl ?_
  (focus (refine Wr ?_; refine Sm rfl ?_; refine On ?_; refine WP_seq ?_; refine Wr ?_; refine Sm rfl ?_; refine S_q rfl rfl rfl (Q_lenS rfl rfl rfl rfl rfl rfl ‹_›) ?_; refine Sm rfl ?_; refine S_q rfl rfl rfl (Q_lenS rfl rfl rfl rfl rfl rfl ‹_›) ?_; refine Sc rfl rfl rfl rfl rfl rfl rfl ?_; refine On ?_; refine WP_cond rfl (fun c0_1 => ?_) (fun c0_1 => ?_) <;> (try simp at c0_1); (focus (refine Wr ?_; refine Sm rfl ?_; refine On ?_; refine WP_ret ?_; refine then_r ?_)); rotate_left 1; (focus (refine WP_skip ?_; refine then_n ?_; refine WP_seq ?_; refine Wr ?_; refine Sm rfl ?_; refine S_q rfl rfl rfl (Q_lenS rfl rfl rfl rfl rfl rfl ‹_›) ?_; refine Sm rfl ?_; refine On ?_; refine WP_block ?_)); rotate_left 1))
  · have : xs ≠ ys := fun e => by rw [e] at c0_1; simp at c0_1
    refine pret (.inl rfl) rfl ⟨_, _, rfl, rfl, rfl⟩ ?_
    simp [resOf, this]
  have hlen : xs.length = ys.length := by omega
  (refine WP_loopC (α := Nat) [12, 0, 1] (fun (k : Nat) => xs.length - k) (fun (k : Nat) => [(13, .int .i64 k)]) (fun hh (k : Nat) => hh = h ∧ k ≤ xs.length ∧ xs.take k = ys.take k) 0 ⟨_, _, rfl, ⟨_, _, rfl, ⟨_, _, rfl, rfl, rfl⟩, rfl⟩, rfl⟩ (by repeat' first | exact trivial | refine ⟨rfl, ?_⟩) ?_ ?_)
  · exact ⟨rfl, Nat.zero_le _, rfl⟩
  rintro h1 k _ ⟨rfl, hk, ht⟩
  by_cases hlt : k < xs.length
  · obtain ⟨x, ex⟩ := get_of hlt
    obtain ⟨y, ey⟩ := get_of (xs := ys) (k := k) (by omega)
    (focus (refine Wr ?_; refine Sc rfl rfl rfl rfl rfl rfl rfl ?_; refine On ?_; refine WP_seq ?_; refine WP_cond rfl (fun c2_1 => ?_) (fun c2_1 => ?_) <;> (try simp at c2_1); (focus (refine WP_skip ?_; refine then_n ?_; refine WP_seq ?_; refine WP_block ?_; refine Wr ?_; refine Sm rfl ?_; refine Sm rfl ?_; refine On ?_; refine WP_seq ?_; refine R_draw (n := 9) mixed rfl ?_; refine A_at 0 rfl rfl ?_; refine A_q (m' := 1) rfl rfl rfl (Q_move rfl rfl) rfl (by decide +kernel) ?_; refine A_at 1 rfl rfl ?_; refine A_q (m' := 3) rfl rfl rfl (Q_move rfl rfl) rfl (by decide +kernel) ?_; refine A_at 2 rfl rfl ?_; refine A_q (m' := 7) rfl rfl rfl (Q_indexS ‹_› ‹_› rfl rfl rfl (elm rfl) rfl) rfl (by decide +kernel) ?_; refine A_at 3 rfl rfl ?_; refine A_load (m' := 15) rfl rfl rfl rfl rfl rfl (by decide +kernel) ?_; refine L_elA ‹_› ‹_› (ty rfl) ?_; rintro _ _ _ rfl; refine A_at 4 rfl rfl ?_; refine A_q (m' := 31) rfl rfl rfl (Q_move rfl rfl) rfl (by decide +kernel) ?_; refine A_at 5 rfl rfl ?_; refine A_q (m' := 63) rfl rfl rfl (Q_move rfl rfl) rfl (by decide +kernel) ?_; refine A_at 6 rfl rfl ?_; refine A_q (m' := 127) rfl rfl rfl (Q_indexS ‹_› ‹_› rfl rfl rfl (elm rfl) rfl) rfl (by decide +kernel) ?_; refine A_at 7 rfl rfl ?_; refine A_load (m' := 255) rfl rfl rfl rfl rfl rfl (by decide +kernel) ?_; refine L_elA ‹_› ‹_› (ty rfl) ?_; rintro _ _ _ rfl; refine A_at 8 rfl rfl ?_; refine A_q (m' := 511) rfl rfl rfl (Q_neV eqVal rfl rfl rfl rfl rfl) rfl (by decide +kernel) ?_; refine A_done (by decide +kernel) ?_; refine then_n ?_; refine WP_cond rfl (fun c2_4 => ?_) (fun c2_4 => ?_) <;> (try simp at c2_4); (focus (refine Wr ?_; refine Sm rfl ?_; refine On ?_; refine WP_ret ?_; refine block_r ?_; refine then_r ?_; refine roundF_r ?_; refine block_r ?_; refine then_r ?_)); rotate_left 1; (focus (refine WP_skip ?_; refine block_n ?_; refine then_n ?_; refine R_region ?_; refine S_q rfl rfl rfl (Q_add rfl rfl rfl (by omega)) ?_; refine Sm rfl ?_; refine OPS_nil ?_)); rotate_left 1)); rotate_left 2; (focus (exfalso; omega))))
    · refine pret (.inl rfl) rfl ⟨_, _, rfl, rfl, rfl⟩ ?_
      have : xs ≠ ys := fun e => by subst e; rw [ex] at ey; cases ey; simp_all
      simp [resOf, this]
    · refine roundF_n (k + 1) (by omega) ⟨rfl, by omega, take_eq (x := x) ht ex ?_⟩ (List.Sublist.refl _) (by repeat' first | exact trivial | refine ⟨rfl, ?_⟩)
      rw [ey]; obtain ⟨x1, x2, x3, x4⟩ := x; obtain ⟨y1, y2, y3, y4⟩ := y; simp_all
  · have hge : k = xs.length := by omega
    subst hge
    (focus (refine Wr ?_; refine Sc rfl rfl rfl rfl rfl rfl rfl ?_; refine On ?_; refine WP_seq ?_; refine WP_cond rfl (fun c3_1 => ?_) (fun c3_1 => ?_) <;> (try simp at c3_1); refine WP_exit ?_; refine then_e ?_; refine roundF_e ?_; refine block_e ?_; refine then_n ?_; refine Wr ?_; refine Sm rfl ?_; refine On ?_; refine WP_ret ?_))
    · refine pret (.inl rfl) rfl ⟨_, _, rfl, rfl, rfl⟩ ?_
      have : xs = ys := by rw [List.take_of_length_le (Nat.le_refl _), List.take_of_length_le (by omega)] at ht; exact ht
      simp [resOf, this]
end Go.Proofs.YtfhoecgiahpddaaGreat
/-
  CONTRACTS: slices of values copied; nodes that are valid, equal, copied, found.
-/
set_option linter.all false
namespace Go.Proofs.YtfhoecgiahpddaaGreat
open Go.Mesh Go.RowKit
set_option maxRecDepth 100000
set_option linter.unusedVariables false
set_option maxHeartbeats 4000000
attribute [local irreducible] WP OPS ANY ANYo LG LV FSpec PSpec QOP OPc OPw thenQ blockQ roundQ roundF retQ retM Rd At SLB OS cmpI orI cmpID namedB valB
theorem cloneVals_s {h : Frag} {a : Value} {xs : List Val} (hx : SL h 4 ValC a xs) : PSpec Tryz.prog 92 #[a] h (fun h' v => ∃ p c, v = .slice p xs.length c ∧ SL h' 4 ValC (.slice p xs.length c) xs) := by
  have hxl := hx.le
  obtain ⟨p, cap, rfl⟩ := hx.slice
  refine pspec_of (vs := [.slice p xs.length cap]) Tryz.func92 Tryz.ntmps92 rfl rfl ?_
  (focus (refine Wr ?_; refine Sm rfl ?_; refine On ?_; refine WP_seq ?_; refine Wr ?_; refine Sm rfl ?_; refine S_q rfl rfl rfl (Q_eqNil rfl rfl rfl rfl) ?_; refine On ?_; refine WP_cond rfl (fun c0_1 => ?_) (fun c0_1 => ?_) <;> (try simp at c0_1); (focus (refine Wr ?_; refine Sm rfl ?_; refine On ?_; refine WP_ret ?_; refine then_r ?_)); rotate_left 1; (focus (refine WP_skip ?_; refine then_n ?_; refine Wr ?_; refine S_c rfl rfl rfl (C_buildSlice rfl (elm rfl) (zer rfl) rfl rfl rfl rfl ?_); intro b0_2; refine Sm rfl ?_; refine S_w rfl rfl rfl (W_appS [] _ (OS.lit0 _ _ _ _ _) ‹_› rfl rfl rfl rfl rfl rfl (elm rfl) (zer rfl) rfl rfl (by simp only [List.length_append, List.length_cons, List.length_nil]; omega) (by simp only [List.length_append, List.length_cons, List.length_nil]; omega) ?_); rintro p0_3 q0_3 m0_3 o0_3; refine Sm rfl ?_; refine On ?_; refine WP_ret ?_)); rotate_left 1))
  · subst c0_1
    have hn : xs = [] := hx.none_nil
    subst hn
    refine pret (.inl rfl) rfl ⟨_, _, rfl, rfl, rfl⟩ ?_
    exact ⟨_, _, rfl, SLB.nil _ _ _ _ _ _⟩
  · exact pretK [] m0_3 (by simp) (.inl rfl) rfl ⟨_, _, rfl, rfl, rfl⟩ fun h' hl hm => ⟨_, _, rfl, OS.sl o0_3 hl ValC_mono hm hxl⟩
def oneB (q : Val → Bool) : List Val → Bool
  | [x] => q x
  | _ => false
theorem oneB_ne {q : Val → Bool} {fs : List Val} (h : ¬ fs.length = 1) : oneB q fs = false := by
  match fs, h with
  | [], _ => rfl
  | [y], e => exact absurd rfl e
  | _ :: _ :: _, _ => rfl
def kindB (kd cl : Int) (fs : List Val) : Bool :=
  if kd = 0 ∨ kd = 1 then decide (0 < cl) && decide ((fs.length : Int) ≤ 30) else if kd = 2 then decide (cl = 0) && oneB (fun x => x.1 != 1) fs else if kd = 3 then (fs.length : Int) == 0 else false
def nodeB (n : Nd) : Bool := namedB n.id && decide (0 ≤ n.cls ∧ n.cls ≤ 60) && n.fields.all valB && kindB n.kind n.cls n.fields
attribute [local irreducible] nodeB kindB
theorem all_drop {α : Type} {p : α → Bool} {xs : List α} {k : Nat} {x : α} (hx : xs[k]? = some x) : (xs.drop k).all p = (p x && (xs.drop (k + 1)).all p) := by rw [drop_get hx]; rfl
theorem any_drop {α : Type} {p : α → Bool} {xs : List α} {k : Nat} {x : α} (hx : xs[k]? = some x) : (xs.drop k).any p = (p x || (xs.drop (k + 1)).any p) := by rw [drop_get hx]; rfl
theorem validNode_s {h : Frag} {n : Nd} {vs : List Value} (hn : NodeC 4398046511104 h n vs) : PSpec Tryz.prog 117 #[.agg vs.toArray] h (fun _ v => v = .bool (nodeB n)) := by
  obtain ⟨p, c, rfl, hf⟩ := hn
  have hl := hf.le
  obtain ⟨⟨i1, i2⟩, kd, cl, fs⟩ := n
  refine pspec_of (vs := [.agg [Value.int .i64 i1, .int .i64 i2, .int .i64 kd, .int .i64 cl, .slice p fs.length c].toArray]) Tryz.func117 Tryz.ntmps117 rfl rfl ?_
  simp only at hf hl
  (focus (refine Wr ?_; refine S_c rfl rfl rfl (C_box rfl rfl ?_); intro b0_1; refine Sm rfl ?_; refine On ?_; refine WP_seq ?_; refine Wr ?_; refine Sf rfl rfl rfl rfl rfl (fld rfl rfl) ?_; refine S_load rfl rfl rfl rfl rfl ?_; refine L_sub (Rd.own m0) (ty rfl) rfl ?_; refine S_c rfl rfl rfl (C_callv (named_s _ (_, _)) rfl rfl ⟨_, _, rfl, rfl, rfl⟩ (cal rfl) ?_); refine S_q rfl rfl rfl (Q_not rfl rfl) ?_; refine Sm rfl ?_; refine S_gsplit rfl rfl rfl rfl (fun c0_2 => ?_) (fun c0_2 => ?_) <;> (first | (simp [*] at c0_2; done) | (try simp at c0_2)); (focus (refine Sn rfl ?_; refine Sn rfl ?_; refine Sn rfl ?_; refine S_q rfl rfl rfl (Q_pick_t rfl rfl rfl) ?_; refine Sm rfl ?_; refine Sn rfl ?_; refine Sn rfl ?_; refine Sn rfl ?_; refine S_q rfl rfl rfl (Q_pick_t rfl rfl rfl) ?_; refine On ?_; refine cond_t rfl ?_; refine Wr ?_; refine Sm rfl ?_; refine On ?_; refine WP_ret ?_; refine then_r ?_)); rotate_left 1; (focus (refine S_gq rfl rfl rfl rfl rfl rfl (Q_fieldAddr rfl rfl (fld rfl rfl)) ?_; refine S_gload rfl rfl rfl rfl rfl rfl rfl rfl ?_; refine L_fld (Rd.own m0) (ty rfl) rfl ?_; refine S_gq rfl rfl rfl rfl rfl rfl (Q_cmp rfl rfl rfl rfl) ?_; refine S_q rfl rfl rfl (Q_pick_f rfl rfl rfl) ?_; refine Sm rfl ?_; refine S_gsplit rfl rfl rfl rfl (fun c0_3 => ?_) (fun c0_3 => ?_) <;> (first | (simp [*] at c0_3; done) | (try simp at c0_3)); (focus (refine Sn rfl ?_; refine Sn rfl ?_; refine Sn rfl ?_; refine S_q rfl rfl rfl (Q_pick_t rfl rfl rfl) ?_; refine On ?_; refine cond_t rfl ?_; refine Wr ?_; refine Sm rfl ?_; refine On ?_; refine WP_ret ?_; refine then_r ?_)); rotate_left 1; (focus (refine S_gq rfl rfl rfl rfl rfl rfl (Q_fieldAddr rfl rfl (fld rfl rfl)) ?_; refine S_gload rfl rfl rfl rfl rfl rfl rfl rfl ?_; refine L_fld (Rd.own m0) (ty rfl) rfl ?_; refine S_gq rfl rfl rfl rfl rfl rfl (Q_cmp rfl rfl rfl rfl) ?_; refine S_q rfl rfl rfl (Q_pick_f rfl rfl rfl) ?_; refine On ?_; refine WP_cond rfl (fun c0_4 => ?_) (fun c0_4 => ?_) <;> (first | (simp [*] at c0_4; done) | (try simp at c0_4)); (focus (refine Wr ?_; refine Sm rfl ?_; refine On ?_; refine WP_ret ?_; refine then_r ?_)); rotate_left 1; (focus (refine WP_skip ?_; refine then_n ?_; refine WP_seq ?_; refine Wr ?_; refine Sf rfl rfl rfl rfl rfl (fld rfl rfl) ?_; refine S_load rfl rfl rfl rfl rfl ?_; refine L_fld (Rd.own m0) (ty rfl) rfl ?_; refine S_q rfl rfl rfl (Q_len rfl rfl rfl rfl rfl rfl) ?_; refine Sm rfl ?_; refine On ?_; refine WP_block ?_)); rotate_left 1)); rotate_left 2)); rotate_left 3))
  iterate 3
    · refine pret (.inl rfl) rfl ⟨_, _, rfl, rfl, rfl⟩ ?_
      simp_all [resOf, nodeB]; try omega
  (refine WP_loopC (α := Nat) [21, 20, 1] (fun (k : Nat) => fs.length - k) (fun (k : Nat) => [(22, .int .i64 k)]) (fun hh (k : Nat) => hh = h ∧ k ≤ fs.length ∧ (fs.drop k).all valB = fs.all valB) 0 ⟨_, _, rfl, ⟨_, _, rfl, ⟨_, _, rfl, rfl, rfl⟩, rfl⟩, rfl⟩ (by repeat' first | exact trivial | refine ⟨rfl, ?_⟩) ?_ ?_)
  · exact ⟨rfl, Nat.zero_le _, rfl⟩
  rintro h1 k _ ⟨rfl, hk, ht⟩
  by_cases hlt : k < fs.length
  · obtain ⟨⟨x1, x2, x3, x4⟩, ex⟩ := get_of hlt
    have had := all_drop (p := valB) ex
    (focus (refine Wr ?_; refine Sc rfl rfl rfl rfl rfl rfl rfl ?_; refine On ?_; refine WP_seq ?_; refine WP_cond rfl (fun c2_1 => ?_) (fun c2_1 => ?_) <;> (first | (simp [*] at c2_1; done) | (try simp at c2_1)); refine WP_skip ?_; refine then_n ?_; refine WP_seq ?_; refine WP_block ?_; refine Wr ?_; refine S_q rfl rfl rfl (Q_indexS ‹_› ‹_› rfl rfl rfl (elm rfl) rfl) ?_; refine S_load rfl rfl rfl rfl rfl ?_; refine L_elA ‹_› ‹_› (ty rfl) ?_; rintro _ _ _ rfl; refine S_c rfl rfl rfl (C_alloc rfl (zer rfl) ?_); intro b2_3; refine S_w0 rfl rfl (W_all rfl rfl rfl (ty rfl) u0 (by first | rfl | assumption) (by first | rfl | assumption) (by first | rfl | assumption | exact ones_sub ‹_› _ _) ?_); refine On ?_; refine Wr ?_; refine S_load rfl rfl rfl rfl rfl ?_; refine L_agg (Rd.own m0) (ty rfl) (by first | rfl | assumption) ?_; refine S_c rfl rfl rfl (C_callv (validVal_s _ (_, _, (_, _))) rfl rfl ⟨_, _, rfl, rfl, rfl⟩ (cal rfl) ?_); refine S_q rfl rfl rfl (Q_not rfl rfl) ?_; refine On ?_; refine WP_cond rfl (fun c2_4 => ?_) (fun c2_4 => ?_) <;> (first | (simp [*] at c2_4; done) | (try simp at c2_4)); (focus (refine Wr ?_; refine Sm rfl ?_; refine On ?_; refine WP_ret ?_; refine block_r ?_; refine then_r ?_; refine roundF_r ?_; refine block_r ?_; refine then_r ?_)); rotate_left 1; (focus (refine WP_skip ?_; refine block_n ?_; refine then_n ?_; refine R_region ?_; refine S_q rfl rfl rfl (Q_add rfl rfl rfl (by omega)) ?_; refine Sm rfl ?_; refine OPS_nil ?_)); rotate_left 1))
    · refine pret (.inl rfl) rfl ⟨_, _, rfl, rfl, rfl⟩ ?_
      have : fs.all valB = false := by rw [← ht, had]; simp_all
      simp [resOf, nodeB, this]
    · refine roundF_n (k + 1) (by omega) ⟨rfl, by omega, ?_⟩ (by repeat' first | exact sR _ | exact sA _ _ | exact sN _ | apply s2 | apply s1) (by repeat' first | exact trivial | refine ⟨rfl, ?_⟩)
      rw [← ht, had]; simp_all
  · have hge : k = fs.length := by omega
    subst hge
    have hall : fs.all valB = true := by rw [← ht]; simp
    have hnb : nodeB ⟨(i1, i2), kd, cl, fs⟩ = kindB kd cl fs := by simp only [nodeB, c0_2, hall]; simp [c0_3, c0_4]
    clear hall ht
    by_cases h1' : fs.length = 1
    · obtain ⟨⟨x1, x2, x3, x4⟩, ex⟩ := get_of (xs := fs) (k := 0) (by omega)
      have hfs : fs = [(x1, x2, x3, x4)] := by
        match fs, h1', ex with
        | [y], _, e => simp at e; rw [e]
      (focus (refine Wr ?_; refine Sc rfl rfl rfl rfl rfl rfl rfl ?_; refine On ?_; refine WP_seq ?_; refine WP_cond rfl (fun c3_1 => ?_) (fun c3_1 => ?_) <;> (first | (simp [*] at c3_1; done) | (try simp at c3_1)); refine WP_exit ?_; refine then_e ?_; refine roundF_e ?_; refine block_e ?_; refine then_n ?_; refine WP_seq ?_; refine Wr ?_; refine Sf rfl rfl rfl rfl rfl (fld rfl rfl) ?_; refine S_load rfl rfl rfl rfl rfl ?_; refine L_fld (Rd.own m0) (ty rfl) rfl ?_; refine On ?_; refine WP_block ?_; refine WP_seq ?_; refine Wr ?_; refine Sc rfl rfl rfl rfl rfl rfl rfl ?_; refine Sm rfl ?_; refine On ?_; refine WP_cond rfl (fun c3_2 => ?_) (fun c3_2 => ?_) <;> (first | (simp [*] at c3_2; done) | (try simp at c3_2)); (focus (refine WP_skip ?_; refine then_n ?_; refine WP_cond rfl (fun c3_3 => ?_) (fun c3_3 => ?_) <;> (first | (simp [*] at c3_3; done) | (try simp at c3_3)); refine Wr ?_; refine Sf rfl rfl rfl rfl rfl (fld rfl rfl) ?_; refine S_load rfl rfl rfl rfl rfl ?_; refine L_fld (Rd.own m0) (ty rfl) rfl ?_; refine Sc rfl rfl rfl rfl rfl rfl rfl ?_; refine Sm rfl ?_; refine S_gsplit rfl rfl rfl rfl (fun c3_4 => ?_) (fun c3_4 => ?_) <;> (first | (simp [*] at c3_4; done) | (try simp at c3_4)); (focus (refine S_gq rfl rfl rfl rfl rfl rfl (Q_fieldAddr rfl rfl (fld rfl rfl)) ?_; refine S_gload rfl rfl rfl rfl rfl rfl rfl rfl ?_; refine L_fld (Rd.own m0) (ty rfl) rfl ?_; refine S_gq rfl rfl rfl rfl rfl rfl (Q_len rfl rfl rfl rfl rfl rfl) ?_; refine S_gq rfl rfl rfl rfl rfl rfl (Q_cmp rfl rfl rfl rfl) ?_; refine S_q rfl rfl rfl (Q_pick_t rfl rfl rfl) ?_; refine Sm rfl ?_; refine On ?_; refine WP_ret ?_; refine block_r ?_; refine then_r ?_)); rotate_left 1; (focus (refine Sn rfl ?_; refine Sn rfl ?_; refine Sn rfl ?_; refine Sn rfl ?_; refine S_q rfl rfl rfl (Q_pick_f rfl rfl rfl) ?_; refine Sm rfl ?_; refine On ?_; refine WP_ret ?_; refine block_r ?_; refine then_r ?_)); rotate_left 1)); rotate_left 2; (focus (refine R_region ?_; refine Sc rfl rfl rfl rfl rfl rfl rfl ?_; refine Sm rfl ?_; refine On ?_; refine WP_cond rfl (fun c3_5 => ?_) (fun c3_5 => ?_) <;> (first | (simp [*] at c3_5; done) | (try simp at c3_5)); (focus (refine Wr ?_; refine Sf rfl rfl rfl rfl rfl (fld rfl rfl) ?_; refine S_load rfl rfl rfl rfl rfl ?_; refine L_fld (Rd.own m0) (ty rfl) rfl ?_; refine Sc rfl rfl rfl rfl rfl rfl rfl ?_; refine Sm rfl ?_; refine S_gsplit rfl rfl rfl rfl (fun c3_6 => ?_) (fun c3_6 => ?_) <;> (first | (simp [*] at c3_6; done) | (try simp at c3_6)); (focus (refine S_gq rfl rfl rfl rfl rfl rfl (Q_fieldAddr rfl rfl (fld rfl rfl)) ?_; refine S_gload rfl rfl rfl rfl rfl rfl rfl rfl ?_; refine L_fld (Rd.own m0) (ty rfl) rfl ?_; refine S_gq rfl rfl rfl rfl rfl rfl (Q_len rfl rfl rfl rfl rfl rfl) ?_; refine S_gq rfl rfl rfl rfl rfl rfl (Q_cmp rfl rfl rfl rfl) ?_; refine S_q rfl rfl rfl (Q_pick_t rfl rfl rfl) ?_; refine Sm rfl ?_; refine On ?_; refine WP_ret ?_; refine block_r ?_; refine then_r ?_)); rotate_left 1; (focus (refine Sn rfl ?_; refine Sn rfl ?_; refine Sn rfl ?_; refine Sn rfl ?_; refine S_q rfl rfl rfl (Q_pick_f rfl rfl rfl) ?_; refine Sm rfl ?_; refine On ?_; refine WP_ret ?_; refine block_r ?_; refine then_r ?_)); rotate_left 1)); rotate_left 2; (focus (refine Wr ?_; refine Sc rfl rfl rfl rfl rfl rfl rfl ?_; refine Sm rfl ?_; refine On ?_; refine WP_cond rfl (fun c3_7 => ?_) (fun c3_7 => ?_) <;> (first | (simp [*] at c3_7; done) | (try simp at c3_7)); (focus (refine Wr ?_; refine Sf rfl rfl rfl rfl rfl (fld rfl rfl) ?_; refine S_load rfl rfl rfl rfl rfl ?_; refine L_fld (Rd.own m0) (ty rfl) rfl ?_; refine Sc rfl rfl rfl rfl rfl rfl rfl ?_; refine Sm rfl ?_; refine S_gsplit rfl rfl rfl rfl (fun c3_8 => ?_) (fun c3_8 => ?_) <;> (first | (simp [*] at c3_8; done) | (try simp at c3_8)); (focus (refine S_gq rfl rfl rfl rfl rfl rfl (Q_fieldAddr rfl rfl (fld rfl rfl)) ?_; refine S_gload rfl rfl rfl rfl rfl rfl rfl rfl ?_; refine L_fld (Rd.own m0) (ty rfl) rfl ?_; refine S_gq rfl rfl rfl rfl rfl rfl (Q_len rfl rfl rfl rfl rfl rfl) ?_; refine S_gq rfl rfl rfl rfl rfl rfl (Q_cmp rfl rfl rfl rfl) ?_; refine S_q rfl rfl rfl (Q_pick_t rfl rfl rfl) ?_; refine Sm rfl ?_; refine S_gsplit rfl rfl rfl rfl (fun c3_9 => ?_) (fun c3_9 => ?_) <;> (first | (simp [*] at c3_9; done) | (try simp at c3_9)); refine S_gq rfl rfl rfl rfl rfl rfl (Q_fieldAddr rfl rfl (fld rfl rfl)) ?_; refine S_gload rfl rfl rfl rfl rfl rfl rfl rfl ?_; refine L_fld (Rd.own m0) (ty rfl) rfl ?_; refine S_gq rfl rfl rfl rfl rfl rfl (Q_indexS ‹_› ‹_› rfl rfl rfl (elm rfl) rfl) ?_; refine S_gq rfl rfl rfl rfl rfl rfl (Q_fieldAddr rfl rfl (fld rfl rfl)) ?_; refine S_gload rfl rfl rfl rfl rfl rfl rfl rfl ?_; refine L_elF ‹_› ‹_› ?_; rintro _ _ _ rfl; refine LV_1 (ty rfl) rfl ?_; refine S_gq rfl rfl rfl rfl rfl rfl (Q_cmp rfl rfl rfl rfl) ?_; refine S_q rfl rfl rfl (Q_pick_t rfl rfl rfl) ?_; refine Sm rfl ?_; refine On ?_; refine WP_ret ?_; refine block_r ?_; refine then_r ?_)); rotate_left 1; (focus (refine Sn rfl ?_; refine Sn rfl ?_; refine Sn rfl ?_; refine Sn rfl ?_; refine S_q rfl rfl rfl (Q_pick_f rfl rfl rfl) ?_; refine Sm rfl ?_; refine Sn rfl ?_; refine Sn rfl ?_; refine Sn rfl ?_; refine Sn rfl ?_; refine Sn rfl ?_; refine Sn rfl ?_; refine S_q rfl rfl rfl (Q_pick_f rfl rfl rfl) ?_; refine Sm rfl ?_; refine On ?_; refine WP_ret ?_; refine block_r ?_; refine then_r ?_)); rotate_left 1)); rotate_left 2; (focus (refine Wr ?_; refine Sc rfl rfl rfl rfl rfl rfl rfl ?_; refine Sm rfl ?_; refine On ?_; refine WP_cond rfl (fun c3_11 => ?_) (fun c3_11 => ?_) <;> (first | (simp [*] at c3_11; done) | (try simp at c3_11)); (focus (refine Wr ?_; refine Sf rfl rfl rfl rfl rfl (fld rfl rfl) ?_; refine S_load rfl rfl rfl rfl rfl ?_; refine L_fld (Rd.own m0) (ty rfl) rfl ?_; refine S_q rfl rfl rfl (Q_len rfl rfl rfl rfl rfl rfl) ?_; refine Sc rfl rfl rfl rfl rfl rfl rfl ?_; refine Sm rfl ?_; refine On ?_; refine WP_ret ?_; refine block_r ?_; refine then_r ?_)); rotate_left 1; (focus (refine WP_skip ?_; refine block_n ?_; refine then_n ?_; refine Wr ?_; refine Sm rfl ?_; refine On ?_; refine WP_ret ?_)); rotate_left 1)); rotate_left 2)); rotate_left 4)); rotate_left 6))
      all_goals refine pret (.inl rfl) rfl ⟨_, _, rfl, rfl, rfl⟩ ?_
      all_goals (rw [hnb]; clear hnb; subst hfs; simp_all [resOf, kindB, oneB])
    · (focus (refine Wr ?_; refine Sc rfl rfl rfl rfl rfl rfl rfl ?_; refine On ?_; refine WP_seq ?_; refine WP_cond rfl (fun c4_1 => ?_) (fun c4_1 => ?_) <;> (first | (simp [*] at c4_1; done) | (try simp at c4_1)); refine WP_exit ?_; refine then_e ?_; refine roundF_e ?_; refine block_e ?_; refine then_n ?_; refine WP_seq ?_; refine Wr ?_; refine Sf rfl rfl rfl rfl rfl (fld rfl rfl) ?_; refine S_load rfl rfl rfl rfl rfl ?_; refine L_fld (Rd.own m0) (ty rfl) rfl ?_; refine On ?_; refine WP_block ?_; refine WP_seq ?_; refine Wr ?_; refine Sc rfl rfl rfl rfl rfl rfl rfl ?_; refine Sm rfl ?_; refine On ?_; refine WP_cond rfl (fun c4_2 => ?_) (fun c4_2 => ?_) <;> (first | (simp [*] at c4_2; done) | (try simp at c4_2)); (focus (refine WP_skip ?_; refine then_n ?_; refine WP_cond rfl (fun c4_3 => ?_) (fun c4_3 => ?_) <;> (first | (simp [*] at c4_3; done) | (try simp at c4_3)); refine Wr ?_; refine Sf rfl rfl rfl rfl rfl (fld rfl rfl) ?_; refine S_load rfl rfl rfl rfl rfl ?_; refine L_fld (Rd.own m0) (ty rfl) rfl ?_; refine Sc rfl rfl rfl rfl rfl rfl rfl ?_; refine Sm rfl ?_; refine S_gsplit rfl rfl rfl rfl (fun c4_4 => ?_) (fun c4_4 => ?_) <;> (first | (simp [*] at c4_4; done) | (try simp at c4_4)); (focus (refine S_gq rfl rfl rfl rfl rfl rfl (Q_fieldAddr rfl rfl (fld rfl rfl)) ?_; refine S_gload rfl rfl rfl rfl rfl rfl rfl rfl ?_; refine L_fld (Rd.own m0) (ty rfl) rfl ?_; refine S_gq rfl rfl rfl rfl rfl rfl (Q_len rfl rfl rfl rfl rfl rfl) ?_; refine S_gq rfl rfl rfl rfl rfl rfl (Q_cmp rfl rfl rfl rfl) ?_; refine S_q rfl rfl rfl (Q_pick_t rfl rfl rfl) ?_; refine Sm rfl ?_; refine On ?_; refine WP_ret ?_; refine block_r ?_; refine then_r ?_)); rotate_left 1; (focus (refine Sn rfl ?_; refine Sn rfl ?_; refine Sn rfl ?_; refine Sn rfl ?_; refine S_q rfl rfl rfl (Q_pick_f rfl rfl rfl) ?_; refine Sm rfl ?_; refine On ?_; refine WP_ret ?_; refine block_r ?_; refine then_r ?_)); rotate_left 1)); rotate_left 2; (focus (refine R_region ?_; refine Sc rfl rfl rfl rfl rfl rfl rfl ?_; refine Sm rfl ?_; refine On ?_; refine WP_cond rfl (fun c4_5 => ?_) (fun c4_5 => ?_) <;> (first | (simp [*] at c4_5; done) | (try simp at c4_5)); (focus (refine Wr ?_; refine Sf rfl rfl rfl rfl rfl (fld rfl rfl) ?_; refine S_load rfl rfl rfl rfl rfl ?_; refine L_fld (Rd.own m0) (ty rfl) rfl ?_; refine Sc rfl rfl rfl rfl rfl rfl rfl ?_; refine Sm rfl ?_; refine S_gsplit rfl rfl rfl rfl (fun c4_6 => ?_) (fun c4_6 => ?_) <;> (first | (simp [*] at c4_6; done) | (try simp at c4_6)); (focus (refine S_gq rfl rfl rfl rfl rfl rfl (Q_fieldAddr rfl rfl (fld rfl rfl)) ?_; refine S_gload rfl rfl rfl rfl rfl rfl rfl rfl ?_; refine L_fld (Rd.own m0) (ty rfl) rfl ?_; refine S_gq rfl rfl rfl rfl rfl rfl (Q_len rfl rfl rfl rfl rfl rfl) ?_; refine S_gq rfl rfl rfl rfl rfl rfl (Q_cmp rfl rfl rfl rfl) ?_; refine S_q rfl rfl rfl (Q_pick_t rfl rfl rfl) ?_; refine Sm rfl ?_; refine On ?_; refine WP_ret ?_; refine block_r ?_; refine then_r ?_)); rotate_left 1; (focus (refine Sn rfl ?_; refine Sn rfl ?_; refine Sn rfl ?_; refine Sn rfl ?_; refine S_q rfl rfl rfl (Q_pick_f rfl rfl rfl) ?_; refine Sm rfl ?_; refine On ?_; refine WP_ret ?_; refine block_r ?_; refine then_r ?_)); rotate_left 1)); rotate_left 2; (focus (refine Wr ?_; refine Sc rfl rfl rfl rfl rfl rfl rfl ?_; refine Sm rfl ?_; refine On ?_; refine WP_cond rfl (fun c4_7 => ?_) (fun c4_7 => ?_) <;> (first | (simp [*] at c4_7; done) | (try simp at c4_7)); (focus (refine Wr ?_; refine Sf rfl rfl rfl rfl rfl (fld rfl rfl) ?_; refine S_load rfl rfl rfl rfl rfl ?_; refine L_fld (Rd.own m0) (ty rfl) rfl ?_; refine Sc rfl rfl rfl rfl rfl rfl rfl ?_; refine Sm rfl ?_; refine S_gsplit rfl rfl rfl rfl (fun c4_8 => ?_) (fun c4_8 => ?_) <;> (first | (simp [*] at c4_8; done) | (try simp at c4_8)); (focus (refine S_gq rfl rfl rfl rfl rfl rfl (Q_fieldAddr rfl rfl (fld rfl rfl)) ?_; refine S_gload rfl rfl rfl rfl rfl rfl rfl rfl ?_; refine L_fld (Rd.own m0) (ty rfl) rfl ?_; refine S_gq rfl rfl rfl rfl rfl rfl (Q_len rfl rfl rfl rfl rfl rfl) ?_; refine S_gq rfl rfl rfl rfl rfl rfl (Q_cmp rfl rfl rfl rfl) ?_; refine S_q rfl rfl rfl (Q_pick_t rfl rfl rfl) ?_; refine Sm rfl ?_; refine S_gsplit rfl rfl rfl rfl (fun c4_9 => ?_) (fun c4_9 => ?_) <;> (first | (simp [*] at c4_9; done) | (try simp at c4_9)); (focus (exfalso; omega)); (focus (refine Sn rfl ?_; refine Sn rfl ?_; refine Sn rfl ?_; refine Sn rfl ?_; refine Sn rfl ?_; refine Sn rfl ?_; refine S_q rfl rfl rfl (Q_pick_f rfl rfl rfl) ?_; refine Sm rfl ?_; refine On ?_; refine WP_ret ?_; refine block_r ?_; refine then_r ?_)); rotate_left 1)); rotate_left 1; (focus (refine Sn rfl ?_; refine Sn rfl ?_; refine Sn rfl ?_; refine Sn rfl ?_; refine S_q rfl rfl rfl (Q_pick_f rfl rfl rfl) ?_; refine Sm rfl ?_; refine Sn rfl ?_; refine Sn rfl ?_; refine Sn rfl ?_; refine Sn rfl ?_; refine Sn rfl ?_; refine Sn rfl ?_; refine S_q rfl rfl rfl (Q_pick_f rfl rfl rfl) ?_; refine Sm rfl ?_; refine On ?_; refine WP_ret ?_; refine block_r ?_; refine then_r ?_)); rotate_left 1)); rotate_left 2; (focus (refine Wr ?_; refine Sc rfl rfl rfl rfl rfl rfl rfl ?_; refine Sm rfl ?_; refine On ?_; refine WP_cond rfl (fun c4_10 => ?_) (fun c4_10 => ?_) <;> (first | (simp [*] at c4_10; done) | (try simp at c4_10)); (focus (refine Wr ?_; refine Sf rfl rfl rfl rfl rfl (fld rfl rfl) ?_; refine S_load rfl rfl rfl rfl rfl ?_; refine L_fld (Rd.own m0) (ty rfl) rfl ?_; refine S_q rfl rfl rfl (Q_len rfl rfl rfl rfl rfl rfl) ?_; refine Sc rfl rfl rfl rfl rfl rfl rfl ?_; refine Sm rfl ?_; refine On ?_; refine WP_ret ?_; refine block_r ?_; refine then_r ?_)); rotate_left 1; (focus (refine WP_skip ?_; refine block_n ?_; refine then_n ?_; refine Wr ?_; refine Sm rfl ?_; refine On ?_; refine WP_ret ?_)); rotate_left 1)); rotate_left 2)); rotate_left 4)); rotate_left 6))
      all_goals refine pret (.inl rfl) rfl ⟨_, _, rfl, rfl, rfl⟩ ?_
      all_goals (rw [hnb]; clear hnb hf hl hk hlt; simp only [resOf, kindB, oneB_ne h1']; first | (simp [*]; done) | (simp [*]; omega))
theorem compare_s {h : Frag} {n m : Nd} {vs us : List Value} (hn : NodeC 4398046511104 h n vs) (hm : NodeC 4398046511104 h m us) : PSpec Tryz.prog 81 #[.agg vs.toArray, .agg us.toArray] h (fun _ v => v = .int .i64 (cmpID n.id m.id)) := by
  obtain ⟨p, c, rfl, hf⟩ := hn
  obtain ⟨p', c', rfl, hg⟩ := hm
  obtain ⟨⟨i1, i2⟩, kd, cl, fs⟩ := n
  obtain ⟨⟨j1, j2⟩, kd', cl', fs'⟩ := m
  refine pspec_of (vs := [.agg [Value.int .i64 i1, .int .i64 i2, .int .i64 kd, .int .i64 cl, .slice p fs.length c].toArray, .agg [Value.int .i64 j1, .int .i64 j2, .int .i64 kd', .int .i64 cl', .slice p' fs'.length c'].toArray]) Tryz.func81 Tryz.ntmps81 rfl rfl ?_
  (focus (refine Wr ?_; refine S_c rfl rfl rfl (C_box rfl rfl ?_); intro b0_1; refine S_c rfl rfl rfl (C_box rfl rfl ?_); intro b0_2; refine Sm rfl ?_; refine On ?_; refine Wr ?_; refine Sf rfl rfl rfl rfl rfl (fld rfl rfl) ?_; refine S_load rfl rfl rfl rfl rfl ?_; refine L_sub (Rd.own m1) (ty rfl) rfl ?_; refine Sf rfl rfl rfl rfl rfl (fld rfl rfl) ?_; refine S_load rfl rfl rfl rfl rfl ?_; refine L_sub (Rd.own m0) (ty rfl) rfl ?_; refine S_c rfl rfl rfl (C_callv (order_s _ (_, _) (_, _)) rfl rfl ⟨_, _, rfl, ⟨_, _, rfl, rfl, rfl⟩, rfl⟩ (cal rfl) ?_); refine Sm rfl ?_; refine On ?_; refine WP_ret ?_))
  refine pret (.inl rfl) rfl ⟨_, _, rfl, rfl, rfl⟩ ?_
  simp only [resOf]
/-- valid nodes, strictly increasing by identity -/
def valAux : Option Nd → List Nd → Bool
  | _, [] => true
  | p, x :: r => nodeB x && ((match p with | none => true | some y => decide (cmpID y.id x.id < 0)) && valAux (some x) r)
def validG (g : List Nd) : Bool := valAux none g
def prev (g : List Nd) (k : Nat) : Option Nd := match k with | 0 => none | j + 1 => g[j]?
theorem valAux_drop {g : List Nd} {k : Nat} {x : Nd} (hx : g[k]? = some x) : valAux (prev g k) (g.drop k) = (nodeB x && ((match prev g k with | none => true | some y => decide (cmpID y.id x.id < 0)) && valAux (prev g (k + 1)) (g.drop (k + 1)))) := by
  rw [drop_get hx]
  have : prev g (k + 1) = some x := hx
  rw [this]
  simp only [valAux]
attribute [local irreducible] validG valAux
theorem valid_s {h : Frag} {g : List Nd} {vs : List Value} (hg : GraphC 4398046511104 h g vs) : PSpec Tryz.prog 79 #[.agg vs.toArray] h (fun _ v => v = .bool (validG g)) := by
  obtain ⟨p, c, rfl, hf⟩ := hg
  have hl := hf.le
  refine pspec_of (vs := [.agg [Value.slice p g.length c].toArray]) Tryz.func79 Tryz.ntmps79 rfl rfl ?_
  (focus (refine Wr ?_; refine S_c rfl rfl rfl (C_box rfl rfl ?_); intro b0_1; refine Sm rfl ?_; refine On ?_; refine WP_seq ?_; refine Wr ?_; refine Sf rfl rfl rfl rfl rfl (fld rfl rfl) ?_; refine S_load rfl rfl rfl rfl rfl ?_; refine L_one (Rd.own m0) (ty rfl) ?_; refine S_q rfl rfl rfl (Q_len rfl rfl rfl rfl rfl rfl) ?_; refine Sm rfl ?_; refine On ?_; refine WP_block ?_))
  (refine WP_loopC (α := Nat) [7, 6, 1] (fun (k : Nat) => g.length - k) (fun (k : Nat) => [(8, .int .i64 k)]) (fun hh (k : Nat) => hh = h ∧ k ≤ g.length ∧ valAux (prev g k) (g.drop k) = validG g) 0 ⟨_, _, rfl, ⟨_, _, rfl, ⟨_, _, rfl, rfl, rfl⟩, rfl⟩, rfl⟩ (by repeat' first | exact trivial | refine ⟨rfl, ?_⟩) ?_ ?_)
  · exact ⟨rfl, Nat.zero_le _, by rw [validG]; rfl⟩
  rintro h1 k _ ⟨rfl, hk, ht⟩
  by_cases hlt : k < g.length
  · obtain ⟨x, ex⟩ := get_of hlt
    have hs := valAux_drop ex
    rw [ht] at hs
    by_cases h0 : k = 0
    · subst h0
      (focus (refine Wr ?_; refine Sc rfl rfl rfl rfl rfl rfl rfl ?_; refine On ?_; refine WP_seq ?_; refine WP_cond rfl (fun c2_1 => ?_) (fun c2_1 => ?_) <;> (first | (simp [*] at c2_1; done) | (try simp at c2_1)); refine WP_skip ?_; refine then_n ?_; refine WP_seq ?_; refine WP_block ?_; refine Wr ?_; refine Sm rfl ?_; refine S_q rfl rfl rfl (Q_indexS ‹_› ‹_› rfl rfl rfl (elm rfl) rfl) ?_; refine S_load rfl rfl rfl rfl rfl ?_; refine L_elA ‹_› ‹_› (ty rfl) ?_; rintro _ _ _ ⟨pn2_2, qn2_2, rfl, fn2_2⟩; refine S_c rfl rfl rfl (C_alloc rfl (zer rfl) ?_); intro b2_3; refine Sm rfl ?_; refine S_w0 rfl rfl (W_all rfl rfl rfl (ty rfl) u0 (by first | rfl | assumption) (by first | rfl | assumption) (by first | rfl | assumption | exact ones_sub ‹_› _ _) ?_); refine On ?_; refine WP_seq ?_; refine R_draw (n := 18) mixed rfl ?_; refine A_at 0 rfl rfl ?_; refine A_load (m' := 1) rfl rfl rfl rfl rfl rfl (by decide +kernel) ?_; refine L_agg (Rd.own m0) (ty rfl) (by first | rfl | assumption) ?_; refine A_at 1 rfl rfl ?_; refine A_c (m' := 3) rfl rfl rfl rfl (by decide +kernel) (C_callv (validNode_s ⟨_, _, rfl, by assumption⟩) rfl rfl ⟨_, _, rfl, rfl, rfl⟩ (cal rfl) ?_); refine A_at 2 rfl rfl ?_; refine A_q (m' := 7) rfl rfl rfl (Q_not rfl rfl) rfl (by decide +kernel) ?_; refine A_at 3 rfl rfl ?_; refine A_q (m' := 15) rfl rfl rfl (Q_move rfl rfl) rfl (by decide +kernel) ?_; refine A_at 4 rfl rfl ?_; refine A_gsplit rfl rfl rfl rfl (fun c2_4 => ?_) (fun c2_4 => ?_) <;> (first | (simp [*] at c2_4; done) | (try simp at c2_4)); (focus (refine A_at 4 rfl rfl ?_; refine A_gn (m' := 31) rfl rfl rfl rfl rfl rfl rfl (by decide +kernel) ?_; refine A_at 5 rfl rfl ?_; refine A_gn (m' := 63) rfl rfl rfl rfl rfl rfl rfl (by decide +kernel) ?_; refine A_at 6 rfl rfl ?_; refine A_gn (m' := 127) rfl rfl rfl rfl rfl rfl rfl (by decide +kernel) ?_; refine A_at 7 rfl rfl ?_; refine A_gu (m' := 255) rfl rfl rfl rfl rfl rfl rfl (by decide +kernel) ?_; refine A_at 8 rfl rfl ?_; refine A_gu (m' := 511) rfl rfl rfl rfl rfl rfl rfl (by decide +kernel) ?_; refine A_at 9 rfl rfl ?_; refine A_gu (m' := 1023) rfl rfl rfl rfl rfl rfl rfl (by decide +kernel) ?_; refine A_at 10 rfl rfl ?_; refine A_gu (m' := 2047) rfl rfl rfl rfl rfl rfl rfl (by decide +kernel) ?_; refine A_at 11 rfl rfl ?_; refine A_gu (m' := 4095) rfl rfl rfl rfl rfl rfl rfl (by decide +kernel) ?_; refine A_at 12 rfl rfl ?_; refine A_gu (m' := 8191) rfl rfl rfl rfl rfl rfl rfl (by decide +kernel) ?_; refine A_at 13 rfl rfl ?_; refine A_gu (m' := 16383) rfl rfl rfl rfl rfl rfl rfl (by decide +kernel) ?_; refine A_at 14 rfl rfl ?_; refine A_gu (m' := 32767) rfl rfl rfl rfl rfl rfl rfl (by decide +kernel) ?_; refine A_at 15 rfl rfl ?_; refine A_gu (m' := 65535) rfl rfl rfl rfl rfl rfl rfl (by decide +kernel) ?_; refine A_at 16 rfl rfl ?_; refine A_gn (m' := 131071) rfl rfl rfl rfl rfl rfl rfl (by decide +kernel) ?_; refine A_at 17 rfl rfl ?_; refine A_q (m' := 262143) rfl rfl rfl (Q_pick_t rfl rfl rfl) rfl (by decide +kernel) ?_; refine A_done (by decide +kernel) ?_; refine then_n ?_; refine cond_t rfl ?_; refine Wr ?_; refine Sm rfl ?_; refine On ?_; refine WP_ret ?_; refine block_r ?_; refine then_r ?_; refine roundF_r ?_; refine block_r ?_; refine then_r ?_)); rotate_left 1; (focus (refine A_at 4 rfl rfl ?_; refine A_gq (m' := 31) rfl rfl rfl rfl rfl rfl (Q_move rfl rfl) rfl (by decide +kernel) ?_; refine A_at 5 rfl rfl ?_; refine A_gq (m' := 63) rfl rfl rfl rfl rfl rfl (Q_cmp rfl rfl rfl rfl) rfl (by decide +kernel) ?_; refine A_at 6 rfl rfl ?_; refine A_gq (m' := 127) rfl rfl rfl rfl rfl rfl (Q_move rfl rfl) rfl (by decide +kernel) ?_; refine A_at 7 rfl rfl ?_; refine A_gsplit rfl rfl rfl rfl (fun c2_5 => ?_) (fun c2_5 => ?_) <;> (first | (simp [*] at c2_5; done) | (try simp at c2_5)); refine A_at 7 rfl rfl ?_; refine A_gn (m' := 255) rfl rfl rfl rfl rfl rfl rfl (by decide +kernel) ?_; refine A_at 8 rfl rfl ?_; refine A_gn (m' := 511) rfl rfl rfl rfl rfl rfl rfl (by decide +kernel) ?_; refine A_at 9 rfl rfl ?_; refine A_gn (m' := 1023) rfl rfl rfl rfl rfl rfl rfl (by decide +kernel) ?_; refine A_at 10 rfl rfl ?_; refine A_gn (m' := 2047) rfl rfl rfl rfl rfl rfl rfl (by decide +kernel) ?_; refine A_at 11 rfl rfl ?_; refine A_gn (m' := 4095) rfl rfl rfl rfl rfl rfl rfl (by decide +kernel) ?_; refine A_at 12 rfl rfl ?_; refine A_gn (m' := 8191) rfl rfl rfl rfl rfl rfl rfl (by decide +kernel) ?_; refine A_at 13 rfl rfl ?_; refine A_gn (m' := 16383) rfl rfl rfl rfl rfl rfl rfl (by decide +kernel) ?_; refine A_at 14 rfl rfl ?_; refine A_gn (m' := 32767) rfl rfl rfl rfl rfl rfl rfl (by decide +kernel) ?_; refine A_at 15 rfl rfl ?_; refine A_gn (m' := 65535) rfl rfl rfl rfl rfl rfl rfl (by decide +kernel) ?_; refine A_at 16 rfl rfl ?_; refine A_gq (m' := 131071) rfl rfl rfl rfl rfl rfl (Q_pick_f rfl rfl rfl) rfl (by decide +kernel) ?_; refine A_at 17 rfl rfl ?_; refine A_q (m' := 262143) rfl rfl rfl (Q_pick_f rfl rfl rfl) rfl (by decide +kernel) ?_; refine A_done (by decide +kernel) ?_; refine then_n ?_; refine cond_f rfl ?_; refine WP_skip ?_; refine block_n ?_; refine then_n ?_; refine R_region ?_; refine S_q rfl rfl rfl (Q_add rfl rfl rfl (by omega)) ?_; refine Sm rfl ?_; refine OPS_nil ?_)); rotate_left 1))
      · refine pret (.inl rfl) rfl ⟨_, _, rfl, rfl, rfl⟩ ?_
        rw [hs]; simp_all [resOf]
      · refine roundF_n 1 (by omega) ⟨rfl, by omega, ?_⟩ (by repeat' first | exact sR _ | exact sA _ _ | exact sN _ | apply s2 | apply s1) (by repeat' first | exact trivial | refine ⟨rfl, ?_⟩)
        rw [hs]; simp_all [prev]
    · obtain ⟨j, rfl⟩ : ∃ j, k = j + 1 := ⟨k - 1, by omega⟩
      obtain ⟨y, ey⟩ := get_of (xs := g) (k := j) (by omega)
      have hp : prev g (j + 1) = some y := ey
      rw [hp] at hs
      simp only at hs
      (focus (refine Wr ?_; refine Sc rfl rfl rfl rfl rfl rfl rfl ?_; refine On ?_; refine WP_seq ?_; refine WP_cond rfl (fun c3_1 => ?_) (fun c3_1 => ?_) <;> (first | (simp [*] at c3_1; done) | (try simp at c3_1)); (focus (refine WP_skip ?_; refine then_n ?_; refine WP_seq ?_; refine WP_block ?_; refine Wr ?_; refine Sm rfl ?_; refine S_q rfl rfl rfl (Q_indexS ‹_› ‹_› rfl rfl rfl (elm rfl) rfl) ?_; refine S_load rfl rfl rfl rfl rfl ?_; refine L_elA ‹_› ‹_› (ty rfl) ?_; rintro _ _ _ ⟨pn3_2, qn3_2, rfl, fn3_2⟩; refine S_c rfl rfl rfl (C_alloc rfl (zer rfl) ?_); intro b3_3; refine Sm rfl ?_; refine S_w0 rfl rfl (W_all rfl rfl rfl (ty rfl) u0 (by first | rfl | assumption) (by first | rfl | assumption) (by first | rfl | assumption | exact ones_sub ‹_› _ _) ?_); refine On ?_; refine WP_seq ?_; refine R_draw (n := 18) mixed rfl ?_; refine A_at 0 rfl rfl ?_; refine A_load (m' := 1) rfl rfl rfl rfl rfl rfl (by decide +kernel) ?_; refine L_agg (Rd.own m0) (ty rfl) (by first | rfl | assumption) ?_; refine A_at 1 rfl rfl ?_; refine A_c (m' := 3) rfl rfl rfl rfl (by decide +kernel) (C_callv (validNode_s ⟨_, _, rfl, by assumption⟩) rfl rfl ⟨_, _, rfl, rfl, rfl⟩ (cal rfl) ?_); refine A_at 2 rfl rfl ?_; refine A_q (m' := 7) rfl rfl rfl (Q_not rfl rfl) rfl (by decide +kernel) ?_; refine A_at 3 rfl rfl ?_; refine A_q (m' := 15) rfl rfl rfl (Q_move rfl rfl) rfl (by decide +kernel) ?_; refine A_at 4 rfl rfl ?_; refine A_gsplit rfl rfl rfl rfl (fun c3_4 => ?_) (fun c3_4 => ?_) <;> (first | (simp [*] at c3_4; done) | (try simp at c3_4)); (focus (refine A_at 4 rfl rfl ?_; refine A_gn (m' := 31) rfl rfl rfl rfl rfl rfl rfl (by decide +kernel) ?_; refine A_at 5 rfl rfl ?_; refine A_gn (m' := 63) rfl rfl rfl rfl rfl rfl rfl (by decide +kernel) ?_; refine A_at 6 rfl rfl ?_; refine A_gn (m' := 127) rfl rfl rfl rfl rfl rfl rfl (by decide +kernel) ?_; refine A_at 7 rfl rfl ?_; refine A_gu (m' := 255) rfl rfl rfl rfl rfl rfl rfl (by decide +kernel) ?_; refine A_at 8 rfl rfl ?_; refine A_gu (m' := 511) rfl rfl rfl rfl rfl rfl rfl (by decide +kernel) ?_; refine A_at 9 rfl rfl ?_; refine A_gu (m' := 1023) rfl rfl rfl rfl rfl rfl rfl (by decide +kernel) ?_; refine A_at 10 rfl rfl ?_; refine A_gu (m' := 2047) rfl rfl rfl rfl rfl rfl rfl (by decide +kernel) ?_; refine A_at 11 rfl rfl ?_; refine A_gu (m' := 4095) rfl rfl rfl rfl rfl rfl rfl (by decide +kernel) ?_; refine A_at 12 rfl rfl ?_; refine A_gu (m' := 8191) rfl rfl rfl rfl rfl rfl rfl (by decide +kernel) ?_; refine A_at 13 rfl rfl ?_; refine A_gu (m' := 16383) rfl rfl rfl rfl rfl rfl rfl (by decide +kernel) ?_; refine A_at 14 rfl rfl ?_; refine A_gu (m' := 32767) rfl rfl rfl rfl rfl rfl rfl (by decide +kernel) ?_; refine A_at 15 rfl rfl ?_; refine A_gu (m' := 65535) rfl rfl rfl rfl rfl rfl rfl (by decide +kernel) ?_; refine A_at 16 rfl rfl ?_; refine A_gn (m' := 131071) rfl rfl rfl rfl rfl rfl rfl (by decide +kernel) ?_; refine A_at 17 rfl rfl ?_; refine A_q (m' := 262143) rfl rfl rfl (Q_pick_t rfl rfl rfl) rfl (by decide +kernel) ?_; refine A_done (by decide +kernel) ?_; refine then_n ?_; refine cond_t rfl ?_; refine Wr ?_; refine Sm rfl ?_; refine On ?_; refine WP_ret ?_; refine block_r ?_; refine then_r ?_; refine roundF_r ?_; refine block_r ?_; refine then_r ?_)); rotate_left 1; (focus (refine A_at 4 rfl rfl ?_; refine A_gq (m' := 31) rfl rfl rfl rfl rfl rfl (Q_move rfl rfl) rfl (by decide +kernel) ?_; refine A_at 5 rfl rfl ?_; refine A_gq (m' := 63) rfl rfl rfl rfl rfl rfl (Q_cmp rfl rfl rfl rfl) rfl (by decide +kernel) ?_; refine A_at 6 rfl rfl ?_; refine A_gq (m' := 127) rfl rfl rfl rfl rfl rfl (Q_move rfl rfl) rfl (by decide +kernel) ?_; refine A_at 7 rfl rfl ?_; refine A_gsplit rfl rfl rfl rfl (fun c3_5 => ?_) (fun c3_5 => ?_) <;> (first | (simp [*] at c3_5; done) | (try simp at c3_5)); refine A_at 7 rfl rfl ?_; refine A_gq (m' := 255) rfl rfl rfl rfl rfl rfl (Q_fieldAddr rfl rfl (fld rfl rfl)) rfl (by decide +kernel) ?_; refine A_at 8 rfl rfl ?_; refine A_gload (m' := 511) rfl rfl rfl rfl rfl rfl rfl rfl rfl (by decide +kernel) ?_; refine L_one (Rd.own m1) (ty rfl) ?_; refine A_at 9 rfl rfl ?_; refine A_gq (m' := 1023) rfl rfl rfl rfl rfl rfl (Q_move rfl rfl) rfl (by decide +kernel) ?_; refine A_at 10 rfl rfl ?_; refine A_gq (m' := 2047) rfl rfl rfl rfl rfl rfl (Q_sub rfl rfl rfl (by omega)) rfl (by decide +kernel) ?_; refine A_at 11 rfl rfl ?_; refine A_gq (m' := 4095) rfl rfl rfl rfl rfl rfl (Q_indexS ‹_› ‹_› rfl rfl rfl (elm rfl) (by omega)) rfl (by decide +kernel) ?_; refine A_at 12 rfl rfl ?_; refine A_gload (m' := 8191) rfl rfl rfl rfl rfl rfl rfl rfl rfl (by decide +kernel) ?_; refine L_elA ‹_› ‹_› (ty rfl) ?_; rintro _ _ _ ⟨pn3_6, qn3_6, rfl, fn3_6⟩; refine A_at 13 rfl rfl ?_; refine A_gload (m' := 16383) rfl rfl rfl rfl rfl rfl rfl rfl rfl (by decide +kernel) ?_; refine L_agg (Rd.own m0) (ty rfl) (by first | rfl | assumption) ?_; refine A_at 14 rfl rfl ?_; refine A_gc (m' := 32767) rfl rfl rfl rfl rfl rfl rfl (by decide +kernel) (C_callv (compare_s ⟨_, _, rfl, by assumption⟩ ⟨_, _, rfl, by assumption⟩) rfl rfl ⟨_, _, rfl, ⟨_, _, rfl, rfl, rfl⟩, rfl⟩ (cal rfl) ?_); refine A_at 15 rfl rfl ?_; refine A_gq (m' := 65535) rfl rfl rfl rfl rfl rfl (Q_cmp rfl rfl rfl rfl) rfl (by decide +kernel) ?_; refine A_at 16 rfl rfl ?_; refine A_gq (m' := 131071) rfl rfl rfl rfl rfl rfl (Q_pick_t rfl rfl rfl) rfl (by decide +kernel) ?_; refine A_at 17 rfl rfl ?_; refine A_q (m' := 262143) rfl rfl rfl (Q_pick_f rfl rfl rfl) rfl (by decide +kernel) ?_; refine A_done (by decide +kernel) ?_; refine then_n ?_; refine WP_cond rfl (fun c3_7 => ?_) (fun c3_7 => ?_) <;> (first | (simp [*] at c3_7; done) | (try simp at c3_7)); (focus (refine Wr ?_; refine Sm rfl ?_; refine On ?_; refine WP_ret ?_; refine block_r ?_; refine then_r ?_; refine roundF_r ?_; refine block_r ?_; refine then_r ?_)); rotate_left 1; (focus (refine WP_skip ?_; refine block_n ?_; refine then_n ?_; refine R_region ?_; refine S_q rfl rfl rfl (Q_add rfl rfl rfl (by omega)) ?_; refine Sm rfl ?_; refine OPS_nil ?_)); rotate_left 1)); rotate_left 2)); rotate_left 3; (focus (exfalso; omega))))
      · refine pret (.inl rfl) rfl ⟨_, _, rfl, rfl, rfl⟩ ?_
        rw [hs]; clear hs ht; simp [resOf, *]
      · refine pret (.inl rfl) rfl ⟨_, _, rfl, rfl, rfl⟩ ?_
        rw [hs]; clear hs ht; simp [resOf, *]; intro hh; omega
      · refine roundF_n (j + 2) (by omega) ⟨rfl, by omega, ?_⟩ (by repeat' first | exact sR _ | exact sA _ _ | exact sN _ | apply s2 | apply s1) (by repeat' first | exact trivial | refine ⟨rfl, ?_⟩)
        rw [hs]; clear hs ht; simp [*]
  · have hge : k = g.length := by omega
    subst hge
    (focus (refine Wr ?_; refine Sc rfl rfl rfl rfl rfl rfl rfl ?_; refine On ?_; refine WP_seq ?_; refine WP_cond rfl (fun c4_1 => ?_) (fun c4_1 => ?_) <;> (first | (simp [*] at c4_1; done) | (try simp at c4_1)); refine WP_exit ?_; refine then_e ?_; refine roundF_e ?_; refine block_e ?_; refine then_n ?_; refine Wr ?_; refine Sm rfl ?_; refine On ?_; refine WP_ret ?_))
    refine pret (.inl rfl) rfl ⟨_, _, rfl, rfl, rfl⟩ ?_
    rw [← ht, List.drop_length, valAux]; rfl
/-- a node found by its identity -/
def findG (g : List Nd) (id : ID) : Option Nd := g.find? fun n => decide (n.id = id)
def zeroN : Nd := ⟨(0, 0), 0, 0, []⟩
def idxI : Option Nat → Int
  | none => -1
  | some k => k
theorem findIdx_drop {α : Type} {p : α → Bool} {xs : List α} {k : Nat} {x : α} (hx : xs[k]? = some x) : ((xs.drop k).findIdx? p).map (· + k) = if p x then some k else ((xs.drop (k + 1)).findIdx? p).map (· + (k + 1)) := by
  rw [drop_get hx, List.findIdx?_cons]
  cases p x with
  | true => simp
  | false =>
    simp only [Bool.false_eq_true, if_false, Option.map_map]
    congr 1; funext y; simp only [Function.comp]; omega
attribute [local irreducible] idxI
theorem idxNode_s {α : Type} {C : CR α} {h : Frag} {a : Value} {xs : List α} {g : Nat} {cap : List Value} {p : α → Bool} (hs : SL h 5 C a xs) (hcal : callOk Tryz.prog g = true)
    (hfn : ∀ x vs, vs.length = 5 → ones vs = true → C h x vs → PSpec Tryz.prog g ([Value.agg vs.toArray] ++ cap).toArray h (fun _ v => v = .bool (p x))) :
    PSpec Tryz.prog 43 #[a, .func (.func g) #[] cap.toArray] h (fun _ v => v = .int .i64 (idxI (xs.findIdx? p))) := by
  have hl := hs.le
  refine pspec_of (vs := [a, .func (.func g) #[] cap.toArray]) Tryz.func43 Tryz.ntmps43 rfl rfl ?_
  (focus (refine Wr ?_; refine Sm rfl ?_; refine On ?_; refine WP_seq ?_; refine Wr ?_; refine Sm rfl ?_; refine S_q rfl rfl rfl (Q_lenS rfl rfl rfl rfl rfl rfl ‹_›) ?_; refine Sm rfl ?_; refine On ?_; refine WP_block ?_))
  (refine WP_loopC (α := Nat) [7, 0, 1] (fun (k : Nat) => xs.length - k) (fun (k : Nat) => [(8, .int .i64 k)]) (fun hh (k : Nat) => hh = h ∧ k ≤ xs.length ∧ ((xs.drop k).findIdx? p).map (· + k) = xs.findIdx? p) 0 ⟨_, _, rfl, ⟨_, _, rfl, ⟨_, _, rfl, rfl, rfl⟩, rfl⟩, rfl⟩ (by repeat' first | exact trivial | refine ⟨rfl, ?_⟩) ?_ ?_)
  · exact ⟨rfl, Nat.zero_le _, by simp⟩
  rintro h1 k _ ⟨rfl, hk, ht⟩
  by_cases hlt : k < xs.length
  · obtain ⟨x, ex⟩ := get_of hlt
    have hod := findIdx_drop (p := p) ex
    rw [ht] at hod
    (focus (refine Wr ?_; refine Sc rfl rfl rfl rfl rfl rfl rfl ?_; refine On ?_; refine WP_seq ?_; refine WP_cond rfl (fun c2_1 => ?_) (fun c2_1 => ?_) <;> (first | (simp [*] at c2_1; done) | (try simp at c2_1)); refine WP_skip ?_; refine then_n ?_; refine WP_seq ?_; refine WP_block ?_; refine Wr ?_; refine Sm rfl ?_; refine Sm rfl ?_; refine On ?_; refine Wr ?_; refine Sm rfl ?_; refine Sm rfl ?_; refine Sm rfl ?_; refine S_q rfl rfl rfl (Q_indexS ‹_› ‹_› rfl rfl rfl (elm rfl) rfl) ?_; refine S_load rfl rfl rfl rfl rfl ?_; refine L_elA ‹_› ‹_› (ty rfl) ?_))
    rintro vs e1 e2 e3
    (focus (refine S_c rfl rfl rfl (C_callCv (hfn _ _ ‹_› ‹_› ‹_›) rfl rfl rfl ⟨_, _, rfl, rfl, rfl⟩ hcal ?_); refine On ?_; refine WP_cond rfl (fun c3_1 => ?_) (fun c3_1 => ?_) <;> (first | (simp [*] at c3_1; done) | (try simp at c3_1)); (focus (refine Wr ?_; refine Sm rfl ?_; refine Sm rfl ?_; refine On ?_; refine WP_ret ?_; refine block_r ?_; refine then_r ?_; refine roundF_r ?_; refine block_r ?_; refine then_r ?_)); rotate_left 1; (focus (refine WP_skip ?_; refine block_n ?_; refine then_n ?_; refine R_region ?_; refine S_q rfl rfl rfl (Q_add rfl rfl rfl (by omega)) ?_; refine Sm rfl ?_; refine OPS_nil ?_)); rotate_left 1))
    · refine pret (.inl rfl) rfl ⟨_, _, rfl, rfl, rfl⟩ ?_
      rw [hod]; simp_all [resOf, idxI]
    · refine roundF_n (k + 1) (by omega) ⟨rfl, by omega, ?_⟩ (by repeat' first | exact sR _ | exact sA _ _ | exact sN _ | apply s2 | apply s1) (by repeat' first | exact trivial | refine ⟨rfl, ?_⟩)
      rw [hod]; simp_all
  · have hge : k = xs.length := by omega
    subst hge
    (focus (refine Wr ?_; refine Sc rfl rfl rfl rfl rfl rfl rfl ?_; refine On ?_; refine WP_seq ?_; refine WP_cond rfl (fun c4_1 => ?_) (fun c4_1 => ?_) <;> (first | (simp [*] at c4_1; done) | (try simp at c4_1)); refine WP_exit ?_; refine then_e ?_; refine roundF_e ?_; refine block_e ?_; refine then_n ?_; refine Wr ?_; refine Sm rfl ?_; refine On ?_; refine WP_ret ?_))
    · refine pret (.inl rfl) rfl ⟨_, _, rfl, rfl, rfl⟩ ?_
      rw [← ht]; simp [resOf, idxI]
theorem find1_s {h : Frag} {n : Nd} {vs : List Value} {id : ID} {b : Nat} (hb : At h b 0 (idc id)) (hn : NodeC 4398046511104 h n vs) : PSpec Tryz.prog 44 ([Value.agg vs.toArray] ++ [ptr b 0]).toArray h (fun _ v => v = .bool (decide (n.id = id))) := by
  obtain ⟨p, c, rfl, hf⟩ := hn
  obtain ⟨⟨i1, i2⟩, kd, cl, fs⟩ := n
  refine pspec_of (vs := [.agg [Value.int .i64 i1, .int .i64 i2, .int .i64 kd, .int .i64 cl, .slice p fs.length c].toArray, ptr b 0]) Tryz.func44 Tryz.ntmps44 rfl rfl ?_
  (focus (refine Wr ?_; refine S_c rfl rfl rfl (C_box rfl rfl ?_); intro b0_1; refine Sm rfl ?_; refine On ?_; refine Wr ?_; refine Sf rfl rfl rfl rfl rfl (fld rfl rfl) ?_; refine S_load rfl rfl rfl rfl rfl ?_; refine L_sub (Rd.own m0) (ty rfl) rfl ?_; refine S_load rfl rfl rfl rfl rfl ?_; refine L_agg (Rd.pers ‹_›) (ty rfl) (by first | rfl | assumption) ?_; refine S_q rfl rfl rfl (Q_eqI eqID rfl rfl rfl rfl rfl) ?_; refine Sm rfl ?_; refine On ?_; refine WP_ret ?_))
  refine pret (.inl rfl) rfl ⟨_, _, rfl, rfl, rfl⟩ ?_
  simp only [resOf]
theorem copyNode_s {h : Frag} {n : Nd} {vs : List Value} (hn : NodeC 4398046511104 h n vs) : PSpec Tryz.prog 45 #[.agg vs.toArray] h (fun h' v => ∃ p c, v = .agg #[.int .i64 n.id.1, .int .i64 n.id.2, .int .i64 n.kind, .int .i64 n.cls, .slice p n.fields.length c] ∧ SL h' 4 ValC (.slice p n.fields.length c) n.fields) := by
  obtain ⟨p, c, rfl, hf⟩ := hn
  obtain ⟨⟨i1, i2⟩, kd, cl, fs⟩ := n
  refine pspec_of (vs := [.agg [Value.int .i64 i1, .int .i64 i2, .int .i64 kd, .int .i64 cl, .slice p fs.length c].toArray]) Tryz.func45 Tryz.ntmps45 rfl rfl ?_
  simp only at hf
  (focus (refine Wr ?_; refine S_c rfl rfl rfl (C_box rfl rfl ?_); intro b0_1; refine S_c rfl rfl rfl (C_alloc rfl (zer rfl) ?_); intro b0_2; refine On ?_; refine Wr ?_; refine Sf rfl rfl rfl rfl rfl (fld rfl rfl) ?_; refine S_load rfl rfl rfl rfl rfl ?_; refine L_fld (Rd.own m1) (ty rfl) rfl ?_; refine S_c rfl rfl rfl (C_call (cloneVals_s ‹_›) rfl rfl ⟨_, _, rfl, rfl, rfl⟩ (cal rfl) ?_); rintro h0_3 _ l0_3 ⟨p0_3, q0_3, rfl, f0_3⟩; replace hf := hf.up l0_3; refine Sf rfl rfl rfl rfl rfl (fld rfl rfl) ?_; refine S_w0 rfl rfl (W_fld rfl rfl rfl (ty rfl) u1 rfl rfl rfl rfl ?_); refine On ?_; refine Wr ?_; refine S_load rfl rfl rfl rfl rfl ?_; refine L_agg (Rd.own m1) (ty rfl) (by first | rfl | assumption) ?_; refine S_w0 rfl rfl (W_all rfl rfl rfl (ty rfl) u0 (by first | rfl | assumption) (by first | rfl | assumption) (by first | rfl | assumption | exact ones_sub ‹_› _ _) ?_); refine On ?_; refine WP_ret ?_))
  exact pret (.inl rfl) rfl ⟨_, _, _, rfl, Loads_agg (Rd.own m0) (ty rfl) rfl, rfl, rfl⟩ ⟨_, _, rfl, by assumption⟩
theorem sameNode_s {h : Frag} {n m : Nd} {vs us : List Value} (hn : NodeC 4398046511104 h n vs) (hm : NodeC 4398046511104 h m us) : PSpec Tryz.prog 50 #[.agg vs.toArray, .agg us.toArray] h (fun _ v => v = .bool (decide (n = m))) := by
  obtain ⟨p, c, rfl, hf⟩ := hn
  obtain ⟨p', c', rfl, hg⟩ := hm
  obtain ⟨⟨i1, i2⟩, kd, cl, fs⟩ := n
  obtain ⟨⟨j1, j2⟩, kd', cl', fs'⟩ := m
  refine pspec_of (vs := [.agg [Value.int .i64 i1, .int .i64 i2, .int .i64 kd, .int .i64 cl, .slice p fs.length c].toArray, .agg [Value.int .i64 j1, .int .i64 j2, .int .i64 kd', .int .i64 cl', .slice p' fs'.length c'].toArray]) Tryz.func50 Tryz.ntmps50 rfl rfl ?_
  simp only at hf hg
  (focus (refine Wr ?_; refine S_c rfl rfl rfl (C_box rfl rfl ?_); intro b0_1; refine S_c rfl rfl rfl (C_box rfl rfl ?_); intro b0_2; refine Sm rfl ?_; refine On ?_; refine Wr ?_; refine Sf rfl rfl rfl rfl rfl (fld rfl rfl) ?_; refine S_load rfl rfl rfl rfl rfl ?_; refine L_sub (Rd.own m1) (ty rfl) rfl ?_; refine Sf rfl rfl rfl rfl rfl (fld rfl rfl) ?_; refine S_load rfl rfl rfl rfl rfl ?_; refine L_sub (Rd.own m0) (ty rfl) rfl ?_; refine S_q rfl rfl rfl (Q_eqI eqID rfl rfl rfl rfl rfl) ?_; refine Sm rfl ?_; refine S_gsplit rfl rfl rfl rfl (fun c0_3 => ?_) (fun c0_3 => ?_) <;> (try simp at c0_3); (focus (refine S_gq rfl rfl rfl rfl rfl rfl (Q_fieldAddr rfl rfl (fld rfl rfl)) ?_; refine S_gload rfl rfl rfl rfl rfl rfl rfl rfl ?_; refine L_fld (Rd.own m1) (ty rfl) rfl ?_; refine S_gq rfl rfl rfl rfl rfl rfl (Q_fieldAddr rfl rfl (fld rfl rfl)) ?_; refine S_gload rfl rfl rfl rfl rfl rfl rfl rfl ?_; refine L_fld (Rd.own m0) (ty rfl) rfl ?_; refine S_gq rfl rfl rfl rfl rfl rfl (Q_cmp rfl rfl rfl rfl) ?_; refine S_q rfl rfl rfl (Q_pick_t rfl rfl rfl) ?_; refine Sm rfl ?_; refine S_gsplit rfl rfl rfl rfl (fun c0_4 => ?_) (fun c0_4 => ?_) <;> (try simp at c0_4); (focus (refine S_gq rfl rfl rfl rfl rfl rfl (Q_fieldAddr rfl rfl (fld rfl rfl)) ?_; refine S_gload rfl rfl rfl rfl rfl rfl rfl rfl ?_; refine L_fld (Rd.own m1) (ty rfl) rfl ?_; refine S_gq rfl rfl rfl rfl rfl rfl (Q_fieldAddr rfl rfl (fld rfl rfl)) ?_; refine S_gload rfl rfl rfl rfl rfl rfl rfl rfl ?_; refine L_fld (Rd.own m0) (ty rfl) rfl ?_; refine S_gq rfl rfl rfl rfl rfl rfl (Q_cmp rfl rfl rfl rfl) ?_; refine S_q rfl rfl rfl (Q_pick_t rfl rfl rfl) ?_; refine Sm rfl ?_; refine S_gsplit rfl rfl rfl rfl (fun c0_5 => ?_) (fun c0_5 => ?_) <;> (try simp at c0_5); (focus (refine S_gq rfl rfl rfl rfl rfl rfl (Q_fieldAddr rfl rfl (fld rfl rfl)) ?_; refine S_gload rfl rfl rfl rfl rfl rfl rfl rfl ?_; refine L_fld (Rd.own m1) (ty rfl) rfl ?_; refine S_gq rfl rfl rfl rfl rfl rfl (Q_fieldAddr rfl rfl (fld rfl rfl)) ?_; refine S_gload rfl rfl rfl rfl rfl rfl rfl rfl ?_; refine L_fld (Rd.own m0) (ty rfl) rfl ?_; refine S_gc rfl rfl rfl rfl rfl rfl (C_callv (eqVals_s ‹_› ‹_›) rfl rfl ⟨_, _, rfl, ⟨_, _, rfl, rfl, rfl⟩, rfl⟩ (cal rfl) ?_); refine S_q rfl rfl rfl (Q_pick_t rfl rfl rfl) ?_; refine Sm rfl ?_; refine On ?_; refine WP_ret ?_)); rotate_left 1; (focus (refine Sn rfl ?_; refine Sn rfl ?_; refine Sn rfl ?_; refine Sn rfl ?_; refine Sn rfl ?_; refine S_q rfl rfl rfl (Q_pick_f rfl rfl rfl) ?_; refine Sm rfl ?_; refine On ?_; refine WP_ret ?_)); rotate_left 1)); rotate_left 2; (focus (refine Sn rfl ?_; refine Sn rfl ?_; refine Sn rfl ?_; refine Sn rfl ?_; refine Sn rfl ?_; refine S_q rfl rfl rfl (Q_pick_f rfl rfl rfl) ?_; refine Sm rfl ?_; refine Sn rfl ?_; refine Sn rfl ?_; refine Sn rfl ?_; refine Sn rfl ?_; refine Sn rfl ?_; refine S_q rfl rfl rfl (Q_pick_f rfl rfl rfl) ?_; refine Sm rfl ?_; refine On ?_; refine WP_ret ?_)); rotate_left 1)); rotate_left 3; (focus (refine Sn rfl ?_; refine Sn rfl ?_; refine Sn rfl ?_; refine Sn rfl ?_; refine Sn rfl ?_; refine S_q rfl rfl rfl (Q_pick_f rfl rfl rfl) ?_; refine Sm rfl ?_; refine Sn rfl ?_; refine Sn rfl ?_; refine Sn rfl ?_; refine Sn rfl ?_; refine Sn rfl ?_; refine S_q rfl rfl rfl (Q_pick_f rfl rfl rfl) ?_; refine Sm rfl ?_; refine Sn rfl ?_; refine Sn rfl ?_; refine Sn rfl ?_; refine Sn rfl ?_; refine Sn rfl ?_; refine S_q rfl rfl rfl (Q_pick_f rfl rfl rfl) ?_; refine Sm rfl ?_; refine On ?_; refine WP_ret ?_)); rotate_left 1))
  all_goals refine pret (.inl rfl) rfl ⟨_, _, rfl, rfl, rfl⟩ ?_
  all_goals simp_all [resOf]
theorem findIdx_find {α : Type} {p : α → Bool} : ∀ {xs : List α} {k : Nat}, xs.findIdx? p = some k → ∃ x, xs[k]? = some x ∧ xs.find? p = some x
  | [], _, e => by simp at e
  | x :: xs, k, e => by
    rw [List.findIdx?_cons] at e
    cases hp : p x with
    | true => rw [hp] at e; simp at e; subst e; exact ⟨x, rfl, by simp [hp]⟩
    | false =>
      rw [hp] at e
      simp only [Bool.false_eq_true, if_false, Option.map_eq_some_iff] at e
      obtain ⟨j, hj, rfl⟩ := e
      obtain ⟨y, h1, h2⟩ := findIdx_find hj
      exact ⟨y, by simpa using h1, by simp [hp, h2]⟩
theorem findIdx_none {α : Type} {p : α → Bool} {xs : List α} (e : xs.findIdx? p = none) : xs.find? p = none := by
  simp only [List.findIdx?_eq_none_iff] at e
  simpa using e
theorem find_s {h : Frag} {g : List Nd} {vs : List Value} {id : ID} (hg : GraphC 4398046511104 h g vs) : PSpec Tryz.prog 14 #[.agg vs.toArray, .agg (idc id).toArray] h
    (fun h' v => ∃ us, v = .tuple #[.agg us.toArray, .bool (findG g id).isSome] ∧ NodeC 4398046511104 h' ((findG g id).getD zeroN) us) := by
  obtain ⟨p, c, rfl, hf⟩ := hg
  have hl := hf.le
  refine pspec_of (vs := [.agg [Value.slice p g.length c].toArray, .agg (idc id).toArray]) Tryz.func14 Tryz.ntmps14 rfl rfl ?_
  (focus (refine Wr ?_; refine S_c rfl rfl rfl (C_box rfl rfl ?_); intro b0_1; refine S_c rfl rfl rfl (C_box rfl rfl ?_); intro b0_2; refine S_c rfl rfl rfl (C_alloc rfl (zer rfl) ?_); intro b0_3; refine Sm rfl ?_; refine On ?_; refine Wr ?_; refine Sf rfl rfl rfl rfl rfl (fld rfl rfl) ?_; refine S_load rfl rfl rfl rfl rfl ?_; refine L_one (Rd.own m2) (ty rfl) ?_; refine S_q rfl rfl rfl (Q_makeFunc rfl rfl ⟨_, _, rfl, rfl, rfl⟩) ?_))
  (focus (refine OPS_keepM [_] [_] _ rfl ?_; rintro h1_k l1_k k1_k; have a1_k := at_of_keep k1_k; clear k1_k; replace hf := hf.up l1_k))
  refine S_c rfl rfl rfl (C_callv (idxNode_s (cap := [ptr b0_2 0]) hf (cal rfl) (fun x vs _ _ hx => find1_s a1_k hx)) rfl rfl ⟨_, _, rfl, ⟨_, _, rfl, rfl, rfl⟩, rfl⟩ (cal rfl) ?_)
  cases hi : g.findIdx? (fun n => decide (n.id = id)) with
  | none =>
    simp only [idxI]
    have hx' : findG g id = none := findIdx_none hi
    (focus (refine Sm rfl ?_; refine On ?_; refine WP_seq ?_; refine Wr ?_; refine Sm rfl ?_; refine Sc rfl rfl rfl rfl rfl rfl rfl ?_; refine On ?_; refine cond_t rfl ?_; refine Wr ?_; refine S_q rfl rfl rfl (Q_build rfl (by decide +kernel) (zer rfl) rfl rfl) ?_; refine S_w0 rfl rfl (W_all rfl rfl rfl (ty rfl) u0 (by first | rfl | assumption) (by first | rfl | assumption) (by first | rfl | assumption | exact ones_sub ‹_› _ _) ?_); refine Sm rfl ?_; refine On ?_; refine WP_ret ?_; refine then_r ?_))
    refine pret (.inl rfl) rfl ⟨_, _, _, rfl, Loads_agg (Rd.own m0) (ty rfl) rfl, ⟨_, _, rfl, rfl, rfl⟩, rfl⟩ ?_
    rw [hx']
    exact ⟨_, rfl, none, 0, rfl, SLB.nil _ _ _ _ _ _⟩
  | some k =>
    simp only [idxI]
    obtain ⟨x, ex, hx⟩ := findIdx_find hi
    have hx' : findG g id = some x := hx
    (focus (refine Sm rfl ?_; refine On ?_; refine WP_seq ?_; refine Wr ?_; refine Sm rfl ?_; refine Sc rfl rfl rfl rfl rfl rfl rfl ?_; refine On ?_; refine cond_f rfl ?_; refine WP_skip ?_; refine then_n ?_; refine Wr ?_; refine Sf rfl rfl rfl rfl rfl (fld rfl rfl) ?_; refine S_load rfl rfl rfl rfl rfl ?_; refine L_one (Rd.own m1) (ty rfl) ?_; refine Sm rfl ?_; refine S_q rfl rfl rfl (Q_indexS ‹_› ‹_› rfl rfl rfl (elm rfl) rfl) ?_; refine S_load rfl rfl rfl rfl rfl ?_; refine L_elA ‹_› ‹_› (ty rfl) ?_; rintro _ _ _ ⟨pn3_1, qn3_1, rfl, fn3_1⟩; refine S_c rfl rfl rfl (C_call (copyNode_s ⟨_, _, rfl, by assumption⟩) rfl rfl ⟨_, _, rfl, rfl, rfl⟩ (cal rfl) ?_); rintro h3_2 _ l3_2 ⟨pc3_2, qc3_2, rfl, fc3_2⟩; replace a1_k := a1_k.up l3_2; replace hf := hf.up l3_2; replace fn3_1 := fn3_1.up l3_2; refine S_w0 rfl rfl (W_all rfl rfl rfl (ty rfl) u0 (by first | rfl | assumption) (by first | rfl | assumption) (by first | rfl | assumption | exact ones_sub ‹_› _ _) ?_); refine Sm rfl ?_; refine On ?_; refine WP_ret ?_))
    refine pret (.inl rfl) rfl ⟨_, _, _, rfl, Loads_agg (Rd.own m0) (ty rfl) rfl, ⟨_, _, rfl, rfl, rfl⟩, rfl⟩ ?_
    rw [hx']
    exact ⟨_, rfl, _, _, rfl, by assumption⟩
attribute [local irreducible] findG
theorem eqFunc_s {h : Frag} {a b : Value} {xs ys : List Nd} {g : Nat} (hx : SL h 5 (NodeC 4398046511104) a xs) (hy : SL h 5 (NodeC 4398046511104) b ys) (hcal : callOk Tryz.prog g = true)
    (hfn : ∀ x vs y us, NodeC 4398046511104 h x vs → NodeC 4398046511104 h y us → PSpec Tryz.prog g ([Value.agg vs.toArray, Value.agg us.toArray] ++ []).toArray h (fun _ v => v = .bool (decide (x = y)))) :
    PSpec Tryz.prog 49 #[a, b, .func (.func g) #[] #[]] h (fun _ v => v = .bool (decide (xs = ys))) := by
  have hxl := hx.le
  have hyl := hy.le
  refine pspec_of (vs := [a, b, .func (.func g) #[] #[]]) Tryz.func49 Tryz.ntmps49 rfl rfl ?_
  (focus (refine Wr ?_; refine Sm rfl ?_; refine On ?_; refine WP_seq ?_; refine Wr ?_; refine Sm rfl ?_; refine S_q rfl rfl rfl (Q_lenS rfl rfl rfl rfl rfl rfl ‹_›) ?_; refine Sm rfl ?_; refine S_q rfl rfl rfl (Q_lenS rfl rfl rfl rfl rfl rfl ‹_›) ?_; refine Sc rfl rfl rfl rfl rfl rfl rfl ?_; refine On ?_; refine WP_cond rfl (fun c0_1 => ?_) (fun c0_1 => ?_) <;> (first | (simp [*] at c0_1; done) | (try simp at c0_1)); (focus (refine Wr ?_; refine Sm rfl ?_; refine On ?_; refine WP_ret ?_; refine then_r ?_)); rotate_left 1; (focus (refine WP_skip ?_; refine then_n ?_; refine WP_seq ?_; refine Wr ?_; refine Sm rfl ?_; refine S_q rfl rfl rfl (Q_lenS rfl rfl rfl rfl rfl rfl ‹_›) ?_; refine Sm rfl ?_; refine On ?_; refine WP_block ?_)); rotate_left 1))
  · have : xs ≠ ys := fun e => by rw [e] at c0_1; simp at c0_1
    refine pret (.inl rfl) rfl ⟨_, _, rfl, rfl, rfl⟩ ?_
    simp [resOf, this]
  have hlen : xs.length = ys.length := by omega
  (refine WP_loopC (α := Nat) [16, 15, 1, 2] (fun (k : Nat) => xs.length - k) (fun (k : Nat) => [(17, .int .i64 k)]) (fun hh (k : Nat) => hh = h ∧ k ≤ xs.length ∧ xs.take k = ys.take k) 0 ⟨_, _, rfl, ⟨_, _, rfl, ⟨_, _, rfl, ⟨_, _, rfl, rfl, rfl⟩, rfl⟩, rfl⟩, rfl⟩ (by repeat' first | exact trivial | refine ⟨rfl, ?_⟩) ?_ ?_)
  · exact ⟨rfl, Nat.zero_le _, rfl⟩
  rintro h1 k _ ⟨rfl, hk, ht⟩
  by_cases hlt : k < xs.length
  · obtain ⟨x, ex⟩ := get_of hlt
    obtain ⟨y, ey⟩ := get_of (xs := ys) (k := k) (by omega)
    (focus (refine Wr ?_; refine Sc rfl rfl rfl rfl rfl rfl rfl ?_; refine On ?_; refine WP_seq ?_; refine WP_cond rfl (fun c2_1 => ?_) (fun c2_1 => ?_) <;> (first | (simp [*] at c2_1; done) | (try simp at c2_1)); (focus (refine WP_skip ?_; refine then_n ?_; refine WP_seq ?_; refine WP_block ?_; refine Wr ?_; refine Sm rfl ?_; refine S_q rfl rfl rfl (Q_indexS ‹_› ‹_› rfl rfl rfl (elm rfl) rfl) ?_; refine S_load rfl rfl rfl rfl rfl ?_; refine L_elA ‹_› ‹_› (ty rfl) ?_; rintro _ _ _ ⟨pn2_2, qn2_2, rfl, fn2_2⟩; refine S_c rfl rfl rfl (C_alloc rfl (zer rfl) ?_); intro b2_3; refine Sm rfl ?_; refine S_w0 rfl rfl (W_all rfl rfl rfl (ty rfl) u0 (by first | rfl | assumption) (by first | rfl | assumption) (by first | rfl | assumption | exact ones_sub ‹_› _ _) ?_); refine On ?_; refine Wr ?_; refine Sm rfl ?_; refine Sm rfl ?_; refine S_q rfl rfl rfl (Q_indexS ‹_› ‹_› rfl rfl rfl (elm rfl) rfl) ?_; refine S_load rfl rfl rfl rfl rfl ?_; refine L_elA ‹_› ‹_› (ty rfl) ?_; rintro _ _ _ ⟨pn2_4, qn2_4, rfl, fn2_4⟩; refine S_c rfl rfl rfl (C_alloc rfl (zer rfl) ?_); intro b2_5; refine S_w0 rfl rfl (W_all rfl rfl rfl (ty rfl) u0 (by first | rfl | assumption) (by first | rfl | assumption) (by first | rfl | assumption | exact ones_sub ‹_› _ _) ?_); refine On ?_; refine Wr ?_; refine Sm rfl ?_; refine S_load rfl rfl rfl rfl rfl ?_; refine L_agg (Rd.own m1) (ty rfl) (by first | rfl | assumption) ?_; refine S_load rfl rfl rfl rfl rfl ?_; refine L_agg (Rd.own m0) (ty rfl) (by first | rfl | assumption) ?_)); rotate_left 1; (focus (exfalso; omega))))
    refine S_c rfl rfl rfl (C_callCv (cap := []) (hfn x _ y _ ⟨_, _, rfl, by assumption⟩ ⟨_, _, rfl, by assumption⟩) rfl rfl rfl ⟨_, _, rfl, ⟨_, _, rfl, rfl, rfl⟩, rfl⟩ hcal ?_)
    (focus (refine S_q rfl rfl rfl (Q_not rfl rfl) ?_; refine On ?_; refine WP_cond rfl (fun c3_1 => ?_) (fun c3_1 => ?_) <;> (first | (simp [*] at c3_1; done) | (try simp at c3_1)); (focus (refine Wr ?_; refine Sm rfl ?_; refine On ?_; refine WP_ret ?_; refine block_r ?_; refine then_r ?_; refine roundF_r ?_; refine block_r ?_; refine then_r ?_)); rotate_left 1; (focus (refine WP_skip ?_; refine block_n ?_; refine then_n ?_; refine R_region ?_; refine S_q rfl rfl rfl (Q_add rfl rfl rfl (by omega)) ?_; refine Sm rfl ?_; refine OPS_nil ?_)); rotate_left 1))
    · refine pret (.inl rfl) rfl ⟨_, _, rfl, rfl, rfl⟩ ?_
      have : xs ≠ ys := fun e => by subst e; rw [ex] at ey; cases ey; simp_all
      simp [resOf, this]
    · refine roundF_n (k + 1) (by omega) ⟨rfl, by omega, take_eq (x := x) ht ex ?_⟩ (by repeat' first | exact sR _ | exact sA _ _ | exact sN _ | apply s2 | apply s1) (by repeat' first | exact trivial | refine ⟨rfl, ?_⟩)
      rw [ey]; simp_all
  · have hge : k = xs.length := by omega
    subst hge
    (focus (refine Wr ?_; refine Sc rfl rfl rfl rfl rfl rfl rfl ?_; refine On ?_; refine WP_seq ?_; refine WP_cond rfl (fun c4_1 => ?_) (fun c4_1 => ?_) <;> (first | (simp [*] at c4_1; done) | (try simp at c4_1)); refine WP_exit ?_; refine then_e ?_; refine roundF_e ?_; refine block_e ?_; refine then_n ?_; refine Wr ?_; refine Sm rfl ?_; refine On ?_; refine WP_ret ?_))
    · refine pret (.inl rfl) rfl ⟨_, _, rfl, rfl, rfl⟩ ?_
      have : xs = ys := by rw [List.take_of_length_le (Nat.le_refl _), List.take_of_length_le (by omega)] at ht; exact ht
      simp [resOf, this]
theorem equal_s {h : Frag} {g k : List Nd} {vs us : List Value} (hg : GraphC 4398046511104 h g vs) (hk : GraphC 4398046511104 h k us) : PSpec Tryz.prog 17 #[.agg vs.toArray, .agg us.toArray] h (fun _ v => v = .bool (decide (g = k))) := by
  obtain ⟨p, c, rfl, hf⟩ := hg
  obtain ⟨p', c', rfl, hf'⟩ := hk
  refine pspec_of (vs := [.agg [Value.slice p g.length c].toArray, .agg [Value.slice p' k.length c'].toArray]) Tryz.func17 Tryz.ntmps17 rfl rfl ?_
  (focus (refine Wr ?_; refine S_c rfl rfl rfl (C_box rfl rfl ?_); intro b0_1; refine S_c rfl rfl rfl (C_box rfl rfl ?_); intro b0_2; refine Sm rfl ?_; refine On ?_; refine Wr ?_; refine Sf rfl rfl rfl rfl rfl (fld rfl rfl) ?_; refine S_load rfl rfl rfl rfl rfl ?_; refine L_one (Rd.own m1) (ty rfl) ?_; refine Sf rfl rfl rfl rfl rfl (fld rfl rfl) ?_; refine S_load rfl rfl rfl rfl rfl ?_; refine L_one (Rd.own m0) (ty rfl) ?_))
  refine S_c rfl rfl rfl (C_callv (eqFunc_s (g := 50) hf hf' (cal rfl) (fun x vs y us hx hy => by simpa using sameNode_s hx hy)) rfl rfl ⟨_, _, rfl, ⟨_, _, rfl, ⟨_, _, rfl, rfl, rfl⟩, rfl⟩, rfl⟩ (cal rfl) ?_)
  (focus (refine Sm rfl ?_; refine On ?_; refine WP_ret ?_))
  refine pret (.inl rfl) rfl ⟨_, _, rfl, rfl, rfl⟩ ?_
  simp only [resOf]
end Go.Proofs.YtfhoecgiahpddaaGreat
/-
  CONTRACTS: slices searched (slices.IndexFunc, ContainsFunc, Index, Contains) at each of the types; identities that a list has.
-/
set_option linter.all false
namespace Go.Proofs.YtfhoecgiahpddaaGreat
open Go.Mesh Go.RowKit
set_option maxRecDepth 100000
set_option linter.unusedVariables false
set_option maxHeartbeats 4000000
attribute [local irreducible] WP OPS ANY ANYo LG LV FSpec PSpec QOP OPc OPw thenQ blockQ roundQ roundF retQ retM Rd At SLB OS cmpI orI cmpID namedB valB nodeB kindB validG valAux idxI findG
theorem idxI_any {α : Type} {p : α → Bool} {xs : List α} : decide (idxI (xs.findIdx? p) ≥ 0) = xs.any p := by
  cases h : xs.findIdx? p with
  | none =>
    simp only [List.findIdx?_eq_none_iff] at h
    simp only [idxI]
    have : xs.any p = false := by simpa using h
    simp [this]
  | some k =>
    obtain ⟨x, h1, h2⟩ := findIdx_find h
    have hp := List.find?_some h2
    have : xs.any p = true := by rw [List.any_eq_true]; exact ⟨x, List.mem_of_getElem? h1, hp⟩
    simp only [idxI]
    rw [this]; simp
theorem any_mem {α : Type} [DecidableEq α] {xs : List α} {x : α} : xs.any (fun y => decide (x = y)) = decide (x ∈ xs) := by
  induction xs with
  | nil => simp
  | cons y ys ih => simp [List.any_cons, ih]
theorem idxStub_s {α : Type} {C : CR α} {h : Frag} {a : Value} {xs : List α} {g : Nat} {cap : List Value} {p : α → Bool} (hs : SL h 12 C a xs) (hcal : callOk Tryz.prog g = true)
    (hfn : ∀ x vs, vs.length = 12 → ones vs = true → C h x vs → PSpec Tryz.prog g ([Value.agg vs.toArray] ++ cap).toArray h (fun _ v => v = .bool (p x))) :
    PSpec Tryz.prog 57 #[a, .func (.func g) #[] cap.toArray] h (fun _ v => v = .int .i64 (idxI (xs.findIdx? p))) := by
  have hl := hs.le
  refine pspec_of (vs := [a, .func (.func g) #[] cap.toArray]) Tryz.func57 Tryz.ntmps57 rfl rfl ?_
  (focus (refine Wr ?_; refine Sm rfl ?_; refine On ?_; refine WP_seq ?_; refine Wr ?_; refine Sm rfl ?_; refine S_q rfl rfl rfl (Q_lenS rfl rfl rfl rfl rfl rfl ‹_›) ?_; refine Sm rfl ?_; refine On ?_; refine WP_block ?_))
  (refine WP_loopC (α := Nat) [7, 0, 1] (fun (k : Nat) => xs.length - k) (fun (k : Nat) => [(8, .int .i64 k)]) (fun hh (k : Nat) => hh = h ∧ k ≤ xs.length ∧ ((xs.drop k).findIdx? p).map (· + k) = xs.findIdx? p) 0 ⟨_, _, rfl, ⟨_, _, rfl, ⟨_, _, rfl, rfl, rfl⟩, rfl⟩, rfl⟩ (by repeat' first | exact trivial | refine ⟨rfl, ?_⟩) ?_ ?_)
  · exact ⟨rfl, Nat.zero_le _, by simp⟩
  rintro h1 k _ ⟨rfl, hk, ht⟩
  by_cases hlt : k < xs.length
  · obtain ⟨x, ex⟩ := get_of hlt
    have hod := findIdx_drop (p := p) ex
    rw [ht] at hod
    (focus (refine Wr ?_; refine Sc rfl rfl rfl rfl rfl rfl rfl ?_; refine On ?_; refine WP_seq ?_; refine WP_cond rfl (fun c2_1 => ?_) (fun c2_1 => ?_) <;> (first | (simp [*] at c2_1; done) | (try simp at c2_1)); refine WP_skip ?_; refine then_n ?_; refine WP_seq ?_; refine WP_block ?_; refine Wr ?_; refine Sm rfl ?_; refine Sm rfl ?_; refine On ?_; refine Wr ?_; refine Sm rfl ?_; refine Sm rfl ?_; refine Sm rfl ?_; refine S_q rfl rfl rfl (Q_indexS ‹_› ‹_› rfl rfl rfl (elm rfl) rfl) ?_; refine S_load rfl rfl rfl rfl rfl ?_; refine L_elA ‹_› ‹_› (ty rfl) ?_))
    rintro vs e1 e2 e3
    (focus (refine S_c rfl rfl rfl (C_callCv (hfn _ _ ‹_› ‹_› ‹_›) rfl rfl rfl ⟨_, _, rfl, rfl, rfl⟩ hcal ?_); refine On ?_; refine WP_cond rfl (fun c3_1 => ?_) (fun c3_1 => ?_) <;> (first | (simp [*] at c3_1; done) | (try simp at c3_1)); (focus (refine Wr ?_; refine Sm rfl ?_; refine Sm rfl ?_; refine On ?_; refine WP_ret ?_; refine block_r ?_; refine then_r ?_; refine roundF_r ?_; refine block_r ?_; refine then_r ?_)); rotate_left 1; (focus (refine WP_skip ?_; refine block_n ?_; refine then_n ?_; refine R_region ?_; refine S_q rfl rfl rfl (Q_add rfl rfl rfl (by omega)) ?_; refine Sm rfl ?_; refine OPS_nil ?_)); rotate_left 1))
    · refine pret (.inl rfl) rfl ⟨_, _, rfl, rfl, rfl⟩ ?_
      rw [hod]; simp_all [resOf, idxI]
    · refine roundF_n (k + 1) (by omega) ⟨rfl, by omega, ?_⟩ (by repeat' first | exact sR _ | exact sA _ _ | exact sN _ | apply s2 | apply s1) (by repeat' first | exact trivial | refine ⟨rfl, ?_⟩)
      rw [hod]; simp_all
  · have hge : k = xs.length := by omega
    subst hge
    (focus (refine Wr ?_; refine Sc rfl rfl rfl rfl rfl rfl rfl ?_; refine On ?_; refine WP_seq ?_; refine WP_cond rfl (fun c4_1 => ?_) (fun c4_1 => ?_) <;> (first | (simp [*] at c4_1; done) | (try simp at c4_1)); refine WP_exit ?_; refine then_e ?_; refine roundF_e ?_; refine block_e ?_; refine then_n ?_; refine Wr ?_; refine Sm rfl ?_; refine On ?_; refine WP_ret ?_))
    · refine pret (.inl rfl) rfl ⟨_, _, rfl, rfl, rfl⟩ ?_
      rw [← ht]; simp [resOf, idxI]
theorem idxFlight_s {α : Type} {C : CR α} {h : Frag} {a : Value} {xs : List α} {g : Nat} {cap : List Value} {p : α → Bool} (hs : SL h 41 C a xs) (hcal : callOk Tryz.prog g = true)
    (hfn : ∀ x vs, vs.length = 41 → ones vs = true → C h x vs → PSpec Tryz.prog g ([Value.agg vs.toArray] ++ cap).toArray h (fun _ v => v = .bool (p x))) :
    PSpec Tryz.prog 86 #[a, .func (.func g) #[] cap.toArray] h (fun _ v => v = .int .i64 (idxI (xs.findIdx? p))) := by
  have hl := hs.le
  refine pspec_of (vs := [a, .func (.func g) #[] cap.toArray]) Tryz.func86 Tryz.ntmps86 rfl rfl ?_
  (focus (refine Wr ?_; refine Sm rfl ?_; refine On ?_; refine WP_seq ?_; refine Wr ?_; refine Sm rfl ?_; refine S_q rfl rfl rfl (Q_lenS rfl rfl rfl rfl rfl rfl ‹_›) ?_; refine Sm rfl ?_; refine On ?_; refine WP_block ?_))
  (refine WP_loopC (α := Nat) [7, 0, 1] (fun (k : Nat) => xs.length - k) (fun (k : Nat) => [(8, .int .i64 k)]) (fun hh (k : Nat) => hh = h ∧ k ≤ xs.length ∧ ((xs.drop k).findIdx? p).map (· + k) = xs.findIdx? p) 0 ⟨_, _, rfl, ⟨_, _, rfl, ⟨_, _, rfl, rfl, rfl⟩, rfl⟩, rfl⟩ (by repeat' first | exact trivial | refine ⟨rfl, ?_⟩) ?_ ?_)
  · exact ⟨rfl, Nat.zero_le _, by simp⟩
  rintro h1 k _ ⟨rfl, hk, ht⟩
  by_cases hlt : k < xs.length
  · obtain ⟨x, ex⟩ := get_of hlt
    have hod := findIdx_drop (p := p) ex
    rw [ht] at hod
    (focus (refine Wr ?_; refine Sc rfl rfl rfl rfl rfl rfl rfl ?_; refine On ?_; refine WP_seq ?_; refine WP_cond rfl (fun c2_1 => ?_) (fun c2_1 => ?_) <;> (first | (simp [*] at c2_1; done) | (try simp at c2_1)); refine WP_skip ?_; refine then_n ?_; refine WP_seq ?_; refine WP_block ?_; refine Wr ?_; refine Sm rfl ?_; refine Sm rfl ?_; refine On ?_; refine Wr ?_; refine Sm rfl ?_; refine Sm rfl ?_; refine Sm rfl ?_; refine S_q rfl rfl rfl (Q_indexS ‹_› ‹_› rfl rfl rfl (elm rfl) rfl) ?_; refine S_load rfl rfl rfl rfl rfl ?_; refine L_elA ‹_› ‹_› (ty rfl) ?_))
    rintro vs e1 e2 e3
    (focus (refine S_c rfl rfl rfl (C_callCv (hfn _ _ ‹_› ‹_› ‹_›) rfl rfl rfl ⟨_, _, rfl, rfl, rfl⟩ hcal ?_); refine On ?_; refine WP_cond rfl (fun c3_1 => ?_) (fun c3_1 => ?_) <;> (first | (simp [*] at c3_1; done) | (try simp at c3_1)); (focus (refine Wr ?_; refine Sm rfl ?_; refine Sm rfl ?_; refine On ?_; refine WP_ret ?_; refine block_r ?_; refine then_r ?_; refine roundF_r ?_; refine block_r ?_; refine then_r ?_)); rotate_left 1; (focus (refine WP_skip ?_; refine block_n ?_; refine then_n ?_; refine R_region ?_; refine S_q rfl rfl rfl (Q_add rfl rfl rfl (by omega)) ?_; refine Sm rfl ?_; refine OPS_nil ?_)); rotate_left 1))
    · refine pret (.inl rfl) rfl ⟨_, _, rfl, rfl, rfl⟩ ?_
      rw [hod]; simp_all [resOf, idxI]
    · refine roundF_n (k + 1) (by omega) ⟨rfl, by omega, ?_⟩ (by repeat' first | exact sR _ | exact sA _ _ | exact sN _ | apply s2 | apply s1) (by repeat' first | exact trivial | refine ⟨rfl, ?_⟩)
      rw [hod]; simp_all
  · have hge : k = xs.length := by omega
    subst hge
    (focus (refine Wr ?_; refine Sc rfl rfl rfl rfl rfl rfl rfl ?_; refine On ?_; refine WP_seq ?_; refine WP_cond rfl (fun c4_1 => ?_) (fun c4_1 => ?_) <;> (first | (simp [*] at c4_1; done) | (try simp at c4_1)); refine WP_exit ?_; refine then_e ?_; refine roundF_e ?_; refine block_e ?_; refine then_n ?_; refine Wr ?_; refine Sm rfl ?_; refine On ?_; refine WP_ret ?_))
    · refine pret (.inl rfl) rfl ⟨_, _, rfl, rfl, rfl⟩ ?_
      rw [← ht]; simp [resOf, idxI]
theorem idxScion_s {α : Type} {C : CR α} {h : Frag} {a : Value} {xs : List α} {g : Nat} {cap : List Value} {p : α → Bool} (hs : SL h 12 C a xs) (hcal : callOk Tryz.prog g = true)
    (hfn : ∀ x vs, vs.length = 12 → ones vs = true → C h x vs → PSpec Tryz.prog g ([Value.agg vs.toArray] ++ cap).toArray h (fun _ v => v = .bool (p x))) :
    PSpec Tryz.prog 103 #[a, .func (.func g) #[] cap.toArray] h (fun _ v => v = .int .i64 (idxI (xs.findIdx? p))) := by
  have hl := hs.le
  refine pspec_of (vs := [a, .func (.func g) #[] cap.toArray]) Tryz.func103 Tryz.ntmps103 rfl rfl ?_
  (focus (refine Wr ?_; refine Sm rfl ?_; refine On ?_; refine WP_seq ?_; refine Wr ?_; refine Sm rfl ?_; refine S_q rfl rfl rfl (Q_lenS rfl rfl rfl rfl rfl rfl ‹_›) ?_; refine Sm rfl ?_; refine On ?_; refine WP_block ?_))
  (refine WP_loopC (α := Nat) [7, 0, 1] (fun (k : Nat) => xs.length - k) (fun (k : Nat) => [(8, .int .i64 k)]) (fun hh (k : Nat) => hh = h ∧ k ≤ xs.length ∧ ((xs.drop k).findIdx? p).map (· + k) = xs.findIdx? p) 0 ⟨_, _, rfl, ⟨_, _, rfl, ⟨_, _, rfl, rfl, rfl⟩, rfl⟩, rfl⟩ (by repeat' first | exact trivial | refine ⟨rfl, ?_⟩) ?_ ?_)
  · exact ⟨rfl, Nat.zero_le _, by simp⟩
  rintro h1 k _ ⟨rfl, hk, ht⟩
  by_cases hlt : k < xs.length
  · obtain ⟨x, ex⟩ := get_of hlt
    have hod := findIdx_drop (p := p) ex
    rw [ht] at hod
    (focus (refine Wr ?_; refine Sc rfl rfl rfl rfl rfl rfl rfl ?_; refine On ?_; refine WP_seq ?_; refine WP_cond rfl (fun c2_1 => ?_) (fun c2_1 => ?_) <;> (first | (simp [*] at c2_1; done) | (try simp at c2_1)); refine WP_skip ?_; refine then_n ?_; refine WP_seq ?_; refine WP_block ?_; refine Wr ?_; refine Sm rfl ?_; refine Sm rfl ?_; refine On ?_; refine Wr ?_; refine Sm rfl ?_; refine Sm rfl ?_; refine Sm rfl ?_; refine S_q rfl rfl rfl (Q_indexS ‹_› ‹_› rfl rfl rfl (elm rfl) rfl) ?_; refine S_load rfl rfl rfl rfl rfl ?_; refine L_elA ‹_› ‹_› (ty rfl) ?_))
    rintro vs e1 e2 e3
    (focus (refine S_c rfl rfl rfl (C_callCv (hfn _ _ ‹_› ‹_› ‹_›) rfl rfl rfl ⟨_, _, rfl, rfl, rfl⟩ hcal ?_); refine On ?_; refine WP_cond rfl (fun c3_1 => ?_) (fun c3_1 => ?_) <;> (first | (simp [*] at c3_1; done) | (try simp at c3_1)); (focus (refine Wr ?_; refine Sm rfl ?_; refine Sm rfl ?_; refine On ?_; refine WP_ret ?_; refine block_r ?_; refine then_r ?_; refine roundF_r ?_; refine block_r ?_; refine then_r ?_)); rotate_left 1; (focus (refine WP_skip ?_; refine block_n ?_; refine then_n ?_; refine R_region ?_; refine S_q rfl rfl rfl (Q_add rfl rfl rfl (by omega)) ?_; refine Sm rfl ?_; refine OPS_nil ?_)); rotate_left 1))
    · refine pret (.inl rfl) rfl ⟨_, _, rfl, rfl, rfl⟩ ?_
      rw [hod]; simp_all [resOf, idxI]
    · refine roundF_n (k + 1) (by omega) ⟨rfl, by omega, ?_⟩ (by repeat' first | exact sR _ | exact sA _ _ | exact sN _ | apply s2 | apply s1) (by repeat' first | exact trivial | refine ⟨rfl, ?_⟩)
      rw [hod]; simp_all
  · have hge : k = xs.length := by omega
    subst hge
    (focus (refine Wr ?_; refine Sc rfl rfl rfl rfl rfl rfl rfl ?_; refine On ?_; refine WP_seq ?_; refine WP_cond rfl (fun c4_1 => ?_) (fun c4_1 => ?_) <;> (first | (simp [*] at c4_1; done) | (try simp at c4_1)); refine WP_exit ?_; refine then_e ?_; refine roundF_e ?_; refine block_e ?_; refine then_n ?_; refine Wr ?_; refine Sm rfl ?_; refine On ?_; refine WP_ret ?_))
    · refine pret (.inl rfl) rfl ⟨_, _, rfl, rfl, rfl⟩ ?_
      rw [← ht]; simp [resOf, idxI]
theorem idxVal_s {α : Type} {C : CR α} {h : Frag} {a : Value} {xs : List α} {g : Nat} {cap : List Value} {p : α → Bool} (hs : SL h 4 C a xs) (hcal : callOk Tryz.prog g = true)
    (hfn : ∀ x vs, vs.length = 4 → ones vs = true → C h x vs → PSpec Tryz.prog g ([Value.agg vs.toArray] ++ cap).toArray h (fun _ v => v = .bool (p x))) :
    PSpec Tryz.prog 108 #[a, .func (.func g) #[] cap.toArray] h (fun _ v => v = .int .i64 (idxI (xs.findIdx? p))) := by
  have hl := hs.le
  refine pspec_of (vs := [a, .func (.func g) #[] cap.toArray]) Tryz.func108 Tryz.ntmps108 rfl rfl ?_
  (focus (refine Wr ?_; refine Sm rfl ?_; refine On ?_; refine WP_seq ?_; refine Wr ?_; refine Sm rfl ?_; refine S_q rfl rfl rfl (Q_lenS rfl rfl rfl rfl rfl rfl ‹_›) ?_; refine Sm rfl ?_; refine On ?_; refine WP_block ?_))
  (refine WP_loopC (α := Nat) [7, 0, 1] (fun (k : Nat) => xs.length - k) (fun (k : Nat) => [(8, .int .i64 k)]) (fun hh (k : Nat) => hh = h ∧ k ≤ xs.length ∧ ((xs.drop k).findIdx? p).map (· + k) = xs.findIdx? p) 0 ⟨_, _, rfl, ⟨_, _, rfl, ⟨_, _, rfl, rfl, rfl⟩, rfl⟩, rfl⟩ (by repeat' first | exact trivial | refine ⟨rfl, ?_⟩) ?_ ?_)
  · exact ⟨rfl, Nat.zero_le _, by simp⟩
  rintro h1 k _ ⟨rfl, hk, ht⟩
  by_cases hlt : k < xs.length
  · obtain ⟨x, ex⟩ := get_of hlt
    have hod := findIdx_drop (p := p) ex
    rw [ht] at hod
    (focus (refine Wr ?_; refine Sc rfl rfl rfl rfl rfl rfl rfl ?_; refine On ?_; refine WP_seq ?_; refine WP_cond rfl (fun c2_1 => ?_) (fun c2_1 => ?_) <;> (first | (simp [*] at c2_1; done) | (try simp at c2_1)); refine WP_skip ?_; refine then_n ?_; refine WP_seq ?_; refine WP_block ?_; refine Wr ?_; refine Sm rfl ?_; refine Sm rfl ?_; refine On ?_; refine Wr ?_; refine Sm rfl ?_; refine Sm rfl ?_; refine Sm rfl ?_; refine S_q rfl rfl rfl (Q_indexS ‹_› ‹_› rfl rfl rfl (elm rfl) rfl) ?_; refine S_load rfl rfl rfl rfl rfl ?_; refine L_elA ‹_› ‹_› (ty rfl) ?_))
    rintro vs e1 e2 e3
    (focus (refine S_c rfl rfl rfl (C_callCv (hfn _ _ ‹_› ‹_› ‹_›) rfl rfl rfl ⟨_, _, rfl, rfl, rfl⟩ hcal ?_); refine On ?_; refine WP_cond rfl (fun c3_1 => ?_) (fun c3_1 => ?_) <;> (first | (simp [*] at c3_1; done) | (try simp at c3_1)); (focus (refine Wr ?_; refine Sm rfl ?_; refine Sm rfl ?_; refine On ?_; refine WP_ret ?_; refine block_r ?_; refine then_r ?_; refine roundF_r ?_; refine block_r ?_; refine then_r ?_)); rotate_left 1; (focus (refine WP_skip ?_; refine block_n ?_; refine then_n ?_; refine R_region ?_; refine S_q rfl rfl rfl (Q_add rfl rfl rfl (by omega)) ?_; refine Sm rfl ?_; refine OPS_nil ?_)); rotate_left 1))
    · refine pret (.inl rfl) rfl ⟨_, _, rfl, rfl, rfl⟩ ?_
      rw [hod]; simp_all [resOf, idxI]
    · refine roundF_n (k + 1) (by omega) ⟨rfl, by omega, ?_⟩ (by repeat' first | exact sR _ | exact sA _ _ | exact sN _ | apply s2 | apply s1) (by repeat' first | exact trivial | refine ⟨rfl, ?_⟩)
      rw [hod]; simp_all
  · have hge : k = xs.length := by omega
    subst hge
    (focus (refine Wr ?_; refine Sc rfl rfl rfl rfl rfl rfl rfl ?_; refine On ?_; refine WP_seq ?_; refine WP_cond rfl (fun c4_1 => ?_) (fun c4_1 => ?_) <;> (first | (simp [*] at c4_1; done) | (try simp at c4_1)); refine WP_exit ?_; refine then_e ?_; refine roundF_e ?_; refine block_e ?_; refine then_n ?_; refine Wr ?_; refine Sm rfl ?_; refine On ?_; refine WP_ret ?_))
    · refine pret (.inl rfl) rfl ⟨_, _, rfl, rfl, rfl⟩ ?_
      rw [← ht]; simp [resOf, idxI]
theorem idxID_s {α : Type} {C : CR α} {h : Frag} {a : Value} {xs : List α} {g : Nat} {cap : List Value} {p : α → Bool} (hs : SL h 2 C a xs) (hcal : callOk Tryz.prog g = true)
    (hfn : ∀ x vs, vs.length = 2 → ones vs = true → C h x vs → PSpec Tryz.prog g ([Value.agg vs.toArray] ++ cap).toArray h (fun _ v => v = .bool (p x))) :
    PSpec Tryz.prog 115 #[a, .func (.func g) #[] cap.toArray] h (fun _ v => v = .int .i64 (idxI (xs.findIdx? p))) := by
  have hl := hs.le
  refine pspec_of (vs := [a, .func (.func g) #[] cap.toArray]) Tryz.func115 Tryz.ntmps115 rfl rfl ?_
  (focus (refine Wr ?_; refine Sm rfl ?_; refine On ?_; refine WP_seq ?_; refine Wr ?_; refine Sm rfl ?_; refine S_q rfl rfl rfl (Q_lenS rfl rfl rfl rfl rfl rfl ‹_›) ?_; refine Sm rfl ?_; refine On ?_; refine WP_block ?_))
  (refine WP_loopC (α := Nat) [7, 0, 1] (fun (k : Nat) => xs.length - k) (fun (k : Nat) => [(8, .int .i64 k)]) (fun hh (k : Nat) => hh = h ∧ k ≤ xs.length ∧ ((xs.drop k).findIdx? p).map (· + k) = xs.findIdx? p) 0 ⟨_, _, rfl, ⟨_, _, rfl, ⟨_, _, rfl, rfl, rfl⟩, rfl⟩, rfl⟩ (by repeat' first | exact trivial | refine ⟨rfl, ?_⟩) ?_ ?_)
  · exact ⟨rfl, Nat.zero_le _, by simp⟩
  rintro h1 k _ ⟨rfl, hk, ht⟩
  by_cases hlt : k < xs.length
  · obtain ⟨x, ex⟩ := get_of hlt
    have hod := findIdx_drop (p := p) ex
    rw [ht] at hod
    (focus (refine Wr ?_; refine Sc rfl rfl rfl rfl rfl rfl rfl ?_; refine On ?_; refine WP_seq ?_; refine WP_cond rfl (fun c2_1 => ?_) (fun c2_1 => ?_) <;> (first | (simp [*] at c2_1; done) | (try simp at c2_1)); refine WP_skip ?_; refine then_n ?_; refine WP_seq ?_; refine WP_block ?_; refine Wr ?_; refine Sm rfl ?_; refine Sm rfl ?_; refine On ?_; refine Wr ?_; refine Sm rfl ?_; refine Sm rfl ?_; refine Sm rfl ?_; refine S_q rfl rfl rfl (Q_indexS ‹_› ‹_› rfl rfl rfl (elm rfl) rfl) ?_; refine S_load rfl rfl rfl rfl rfl ?_; refine L_elA ‹_› ‹_› (ty rfl) ?_))
    rintro vs e1 e2 e3
    (focus (refine S_c rfl rfl rfl (C_callCv (hfn _ _ ‹_› ‹_› ‹_›) rfl rfl rfl ⟨_, _, rfl, rfl, rfl⟩ hcal ?_); refine On ?_; refine WP_cond rfl (fun c3_1 => ?_) (fun c3_1 => ?_) <;> (first | (simp [*] at c3_1; done) | (try simp at c3_1)); (focus (refine Wr ?_; refine Sm rfl ?_; refine Sm rfl ?_; refine On ?_; refine WP_ret ?_; refine block_r ?_; refine then_r ?_; refine roundF_r ?_; refine block_r ?_; refine then_r ?_)); rotate_left 1; (focus (refine WP_skip ?_; refine block_n ?_; refine then_n ?_; refine R_region ?_; refine S_q rfl rfl rfl (Q_add rfl rfl rfl (by omega)) ?_; refine Sm rfl ?_; refine OPS_nil ?_)); rotate_left 1))
    · refine pret (.inl rfl) rfl ⟨_, _, rfl, rfl, rfl⟩ ?_
      rw [hod]; simp_all [resOf, idxI]
    · refine roundF_n (k + 1) (by omega) ⟨rfl, by omega, ?_⟩ (by repeat' first | exact sR _ | exact sA _ _ | exact sN _ | apply s2 | apply s1) (by repeat' first | exact trivial | refine ⟨rfl, ?_⟩)
      rw [hod]; simp_all
  · have hge : k = xs.length := by omega
    subst hge
    (focus (refine Wr ?_; refine Sc rfl rfl rfl rfl rfl rfl rfl ?_; refine On ?_; refine WP_seq ?_; refine WP_cond rfl (fun c4_1 => ?_) (fun c4_1 => ?_) <;> (first | (simp [*] at c4_1; done) | (try simp at c4_1)); refine WP_exit ?_; refine then_e ?_; refine roundF_e ?_; refine block_e ?_; refine then_n ?_; refine Wr ?_; refine Sm rfl ?_; refine On ?_; refine WP_ret ?_))
    · refine pret (.inl rfl) rfl ⟨_, _, rfl, rfl, rfl⟩ ?_
      rw [← ht]; simp [resOf, idxI]
theorem hasFlight_s {α : Type} {C : CR α} {h : Frag} {a : Value} {xs : List α} {g : Nat} {cap : List Value} {p : α → Bool} (hs : SL h 41 C a xs) (hcal : callOk Tryz.prog g = true)
    (hfn : ∀ x vs, vs.length = 41 → ones vs = true → C h x vs → PSpec Tryz.prog g ([Value.agg vs.toArray] ++ cap).toArray h (fun _ v => v = .bool (p x))) :
    PSpec Tryz.prog 105 #[a, .func (.func g) #[] cap.toArray] h (fun _ v => v = .bool (xs.any p)) := by
  refine pspec_of (vs := [a, .func (.func g) #[] cap.toArray]) Tryz.func105 Tryz.ntmps105 rfl rfl ?_
  (focus (refine Wr ?_; refine Sm rfl ?_; refine On ?_; refine Wr ?_; refine Sm rfl ?_; refine Sm rfl ?_))
  refine S_c rfl rfl rfl (C_callv (idxFlight_s hs hcal hfn) rfl rfl ⟨_, _, rfl, ⟨_, _, rfl, rfl, rfl⟩, rfl⟩ (cal rfl) ?_)
  (focus (refine Sc rfl rfl rfl rfl rfl rfl rfl ?_; refine Sm rfl ?_; refine On ?_; refine WP_ret ?_))
  refine pret (.inl rfl) rfl ⟨_, _, rfl, rfl, rfl⟩ ?_
  simp only [resOf]; rw [idxI_any]
theorem hasVal_s {α : Type} {C : CR α} {h : Frag} {a : Value} {xs : List α} {g : Nat} {cap : List Value} {p : α → Bool} (hs : SL h 4 C a xs) (hcal : callOk Tryz.prog g = true)
    (hfn : ∀ x vs, vs.length = 4 → ones vs = true → C h x vs → PSpec Tryz.prog g ([Value.agg vs.toArray] ++ cap).toArray h (fun _ v => v = .bool (p x))) :
    PSpec Tryz.prog 66 #[a, .func (.func g) #[] cap.toArray] h (fun _ v => v = .bool (xs.any p)) := by
  refine pspec_of (vs := [a, .func (.func g) #[] cap.toArray]) Tryz.func66 Tryz.ntmps66 rfl rfl ?_
  (focus (refine Wr ?_; refine Sm rfl ?_; refine On ?_; refine Wr ?_; refine Sm rfl ?_; refine Sm rfl ?_))
  refine S_c rfl rfl rfl (C_callv (idxVal_s hs hcal hfn) rfl rfl ⟨_, _, rfl, ⟨_, _, rfl, rfl, rfl⟩, rfl⟩ (cal rfl) ?_)
  (focus (refine Sc rfl rfl rfl rfl rfl rfl rfl ?_; refine Sm rfl ?_; refine On ?_; refine WP_ret ?_))
  refine pret (.inl rfl) rfl ⟨_, _, rfl, rfl, rfl⟩ ?_
  simp only [resOf]; rw [idxI_any]
theorem hasIDf_s {α : Type} {C : CR α} {h : Frag} {a : Value} {xs : List α} {g : Nat} {cap : List Value} {p : α → Bool} (hs : SL h 2 C a xs) (hcal : callOk Tryz.prog g = true)
    (hfn : ∀ x vs, vs.length = 2 → ones vs = true → C h x vs → PSpec Tryz.prog g ([Value.agg vs.toArray] ++ cap).toArray h (fun _ v => v = .bool (p x))) :
    PSpec Tryz.prog 72 #[a, .func (.func g) #[] cap.toArray] h (fun _ v => v = .bool (xs.any p)) := by
  refine pspec_of (vs := [a, .func (.func g) #[] cap.toArray]) Tryz.func72 Tryz.ntmps72 rfl rfl ?_
  (focus (refine Wr ?_; refine Sm rfl ?_; refine On ?_; refine Wr ?_; refine Sm rfl ?_; refine Sm rfl ?_))
  refine S_c rfl rfl rfl (C_callv (idxID_s hs hcal hfn) rfl rfl ⟨_, _, rfl, ⟨_, _, rfl, rfl, rfl⟩, rfl⟩ (cal rfl) ?_)
  (focus (refine Sc rfl rfl rfl rfl rfl rfl rfl ?_; refine Sm rfl ?_; refine On ?_; refine WP_ret ?_))
  refine pret (.inl rfl) rfl ⟨_, _, rfl, rfl, rfl⟩ ?_
  simp only [resOf]; rw [idxI_any]
theorem indexInt_s {h : Frag} {a : Value} {xs : List Int} {x : Int} (hs : SL h 1 IntC a xs) : PSpec Tryz.prog 102 #[a, .int .i64 x] h (fun _ v => v = .int .i64 (idxI (xs.findIdx? fun y => decide (x = y)))) := by
  have hl := hs.le
  refine pspec_of (vs := [a, .int .i64 x]) Tryz.func102 Tryz.ntmps102 rfl rfl ?_
  (focus (refine Wr ?_; refine Sm rfl ?_; refine On ?_; refine WP_seq ?_; refine Wr ?_; refine Sm rfl ?_; refine S_q rfl rfl rfl (Q_lenS rfl rfl rfl rfl rfl rfl ‹_›) ?_; refine Sm rfl ?_; refine On ?_; refine WP_block ?_))
  (refine WP_loopC (α := Nat) [7, 0, 1] (fun (k : Nat) => xs.length - k) (fun (k : Nat) => [(8, .int .i64 k)]) (fun hh (k : Nat) => hh = h ∧ k ≤ xs.length ∧ ((xs.drop k).findIdx? fun y => decide (x = y)).map (· + k) = xs.findIdx? fun y => decide (x = y)) 0 ⟨_, _, rfl, ⟨_, _, rfl, ⟨_, _, rfl, rfl, rfl⟩, rfl⟩, rfl⟩ (by repeat' first | exact trivial | refine ⟨rfl, ?_⟩) ?_ ?_)
  · exact ⟨rfl, Nat.zero_le _, by simp⟩
  rintro h1 k _ ⟨rfl, hk, ht⟩
  by_cases hlt : k < xs.length
  · obtain ⟨y, ex⟩ := get_of hlt
    have hod := findIdx_drop (p := fun y => decide (x = y)) ex
    rw [ht] at hod
    (focus (refine Wr ?_; refine Sc rfl rfl rfl rfl rfl rfl rfl ?_; refine On ?_; refine WP_seq ?_; refine WP_cond rfl (fun c2_1 => ?_) (fun c2_1 => ?_) <;> (first | (simp [*] at c2_1; done) | (try simp at c2_1)); refine WP_skip ?_; refine then_n ?_; refine WP_seq ?_; refine WP_block ?_; refine Wr ?_; refine Sm rfl ?_; refine Sm rfl ?_; refine On ?_; refine Wr ?_; refine Sm rfl ?_; refine Sm rfl ?_; refine Sm rfl ?_; refine S_q rfl rfl rfl (Q_indexS ‹_› ‹_› rfl rfl rfl (elm rfl) rfl) ?_; refine S_load rfl rfl rfl rfl rfl ?_; refine L_el1 ‹_› ‹_› (ty rfl) ?_; rintro _ ⟨⟩; refine Sc rfl rfl rfl rfl rfl rfl rfl ?_; refine On ?_; refine WP_cond rfl (fun c2_3 => ?_) (fun c2_3 => ?_) <;> (first | (simp [*] at c2_3; done) | (try simp at c2_3)); (focus (refine Wr ?_; refine Sm rfl ?_; refine Sm rfl ?_; refine On ?_; refine WP_ret ?_; refine block_r ?_; refine then_r ?_; refine roundF_r ?_; refine block_r ?_; refine then_r ?_)); rotate_left 1; (focus (refine WP_skip ?_; refine block_n ?_; refine then_n ?_; refine R_region ?_; refine S_q rfl rfl rfl (Q_add rfl rfl rfl (by omega)) ?_; refine Sm rfl ?_; refine OPS_nil ?_)); rotate_left 1))
    · refine pret (.inl rfl) rfl ⟨_, _, rfl, rfl, rfl⟩ ?_
      rw [hod]; simp_all [resOf, idxI]
    · refine roundF_n (k + 1) (by omega) ⟨rfl, by omega, ?_⟩ (by repeat' first | exact sR _ | exact sA _ _ | exact sN _ | apply s2 | apply s1) (by repeat' first | exact trivial | refine ⟨rfl, ?_⟩)
      rw [hod]; simp_all
  · have hge : k = xs.length := by omega
    subst hge
    (focus (refine Wr ?_; refine Sc rfl rfl rfl rfl rfl rfl rfl ?_; refine On ?_; refine WP_seq ?_; refine WP_cond rfl (fun c3_1 => ?_) (fun c3_1 => ?_) <;> (first | (simp [*] at c3_1; done) | (try simp at c3_1)); refine WP_exit ?_; refine then_e ?_; refine roundF_e ?_; refine block_e ?_; refine then_n ?_; refine Wr ?_; refine Sm rfl ?_; refine On ?_; refine WP_ret ?_))
    · refine pret (.inl rfl) rfl ⟨_, _, rfl, rfl, rfl⟩ ?_
      rw [← ht]; simp [resOf, idxI]
theorem indexID_s {h : Frag} {a : Value} {xs : List ID} {x : ID} (hs : SL h 2 IDC a xs) : PSpec Tryz.prog 128 #[a, .agg (idc x).toArray] h (fun _ v => v = .int .i64 (idxI (xs.findIdx? fun y => decide (x = y)))) := by
  have hl := hs.le
  obtain ⟨x1, x2⟩ := x
  refine pspec_of (vs := [a, .agg (idc (x1, x2)).toArray]) Tryz.func128 Tryz.ntmps128 rfl rfl ?_
  (focus (refine Wr ?_; refine S_c rfl rfl rfl (C_box rfl rfl ?_); intro b0_1; refine Sm rfl ?_; refine On ?_; refine WP_seq ?_; refine Wr ?_; refine Sm rfl ?_; refine S_q rfl rfl rfl (Q_lenS rfl rfl rfl rfl rfl rfl ‹_›) ?_; refine Sm rfl ?_; refine On ?_; refine WP_block ?_))
  (refine WP_loopC (α := Nat) [7, 3, 0] (fun (k : Nat) => xs.length - k) (fun (k : Nat) => [(8, .int .i64 k)]) (fun hh (k : Nat) => hh = h ∧ k ≤ xs.length ∧ ((xs.drop k).findIdx? fun y => decide ((x1, x2) = y)).map (· + k) = xs.findIdx? fun y => decide ((x1, x2) = y)) 0 ⟨_, _, rfl, ⟨_, _, rfl, ⟨_, _, rfl, rfl, rfl⟩, rfl⟩, rfl⟩ (by repeat' first | exact trivial | refine ⟨rfl, ?_⟩) ?_ ?_)
  · exact ⟨rfl, Nat.zero_le _, by simp⟩
  rintro h1 k _ ⟨rfl, hk, ht⟩
  by_cases hlt : k < xs.length
  · obtain ⟨⟨y1, y2⟩, ex⟩ := get_of hlt
    have hod := findIdx_drop (p := fun y => decide ((x1, x2) = y)) ex
    rw [ht] at hod
    (focus (refine Wr ?_; refine Sc rfl rfl rfl rfl rfl rfl rfl ?_; refine On ?_; refine WP_seq ?_; refine WP_cond rfl (fun c2_1 => ?_) (fun c2_1 => ?_) <;> (first | (simp [*] at c2_1; done) | (try simp at c2_1)); refine WP_skip ?_; refine then_n ?_; refine WP_seq ?_; refine WP_block ?_; refine Wr ?_; refine Sm rfl ?_; refine Sm rfl ?_; refine On ?_; refine WP_seq ?_; refine R_draw (n := 6) mixed rfl ?_; refine A_at 0 rfl rfl ?_; refine A_load (m' := 1) rfl rfl rfl rfl rfl rfl (by decide +kernel) ?_; refine L_agg (Rd.own m0) (ty rfl) (by first | rfl | assumption) ?_; refine A_at 1 rfl rfl ?_; refine A_q (m' := 3) rfl rfl rfl (Q_move rfl rfl) rfl (by decide +kernel) ?_; refine A_at 2 rfl rfl ?_; refine A_q (m' := 7) rfl rfl rfl (Q_move rfl rfl) rfl (by decide +kernel) ?_; refine A_at 3 rfl rfl ?_; refine A_q (m' := 15) rfl rfl rfl (Q_indexS ‹_› ‹_› rfl rfl rfl (elm rfl) rfl) rfl (by decide +kernel) ?_; refine A_at 4 rfl rfl ?_; refine A_load (m' := 31) rfl rfl rfl rfl rfl rfl (by decide +kernel) ?_; refine L_elA ‹_› ‹_› (ty rfl) ?_; rintro _ _ _ rfl; refine A_at 5 rfl rfl ?_; refine A_q (m' := 63) rfl rfl rfl (Q_eqI eqID rfl rfl rfl rfl rfl) rfl (by decide +kernel) ?_; refine A_done (by decide +kernel) ?_; refine then_n ?_; refine WP_cond rfl (fun c2_3 => ?_) (fun c2_3 => ?_) <;> (first | (simp [*] at c2_3; done) | (try simp at c2_3)); (focus (refine Wr ?_; refine Sm rfl ?_; refine Sm rfl ?_; refine On ?_; refine WP_ret ?_; refine block_r ?_; refine then_r ?_; refine roundF_r ?_; refine block_r ?_; refine then_r ?_)); rotate_left 1; (focus (refine WP_skip ?_; refine block_n ?_; refine then_n ?_; refine R_region ?_; refine S_q rfl rfl rfl (Q_add rfl rfl rfl (by omega)) ?_; refine Sm rfl ?_; refine OPS_nil ?_)); rotate_left 1))
    · refine pret (.inl rfl) rfl ⟨_, _, rfl, rfl, rfl⟩ ?_
      rw [hod]; simp_all [resOf, idxI]
    · refine roundF_n (k + 1) (by omega) ⟨rfl, by omega, ?_⟩ (by repeat' first | exact sR _ | exact sA _ _ | exact sN _ | apply s2 | apply s1) (by repeat' first | exact trivial | refine ⟨rfl, ?_⟩)
      rw [hod]; simp_all
  · have hge : k = xs.length := by omega
    subst hge
    (focus (refine Wr ?_; refine Sc rfl rfl rfl rfl rfl rfl rfl ?_; refine On ?_; refine WP_seq ?_; refine WP_cond rfl (fun c3_1 => ?_) (fun c3_1 => ?_) <;> (first | (simp [*] at c3_1; done) | (try simp at c3_1)); refine WP_exit ?_; refine then_e ?_; refine roundF_e ?_; refine block_e ?_; refine then_n ?_; refine Wr ?_; refine Sm rfl ?_; refine On ?_; refine WP_ret ?_))
    · refine pret (.inl rfl) rfl ⟨_, _, rfl, rfl, rfl⟩ ?_
      rw [← ht]; simp [resOf, idxI]
theorem containsInt_s {h : Frag} {a : Value} {xs : List Int} {x : Int} (hs : SL h 1 IntC a xs) : PSpec Tryz.prog 59 #[a, .int .i64 x] h (fun _ v => v = .bool (decide (x ∈ xs))) := by
  refine pspec_of (vs := [a, .int .i64 x]) Tryz.func59 Tryz.ntmps59 rfl rfl ?_
  (focus (refine Wr ?_; refine Sm rfl ?_; refine On ?_; refine Wr ?_; refine Sm rfl ?_; refine Sm rfl ?_; refine S_c rfl rfl rfl (C_callv (indexInt_s ‹_›) rfl rfl ⟨_, _, rfl, ⟨_, _, rfl, rfl, rfl⟩, rfl⟩ (cal rfl) ?_); refine Sc rfl rfl rfl rfl rfl rfl rfl ?_; refine Sm rfl ?_; refine On ?_; refine WP_ret ?_))
  refine pret (.inl rfl) rfl ⟨_, _, rfl, rfl, rfl⟩ ?_
  simp only [resOf]; rw [idxI_any, any_mem]; first | done | exact congrArg Value.bool (decide_eq_decide.2 Iff.rfl)
theorem containsID_s {h : Frag} {a : Value} {xs : List ID} {x : ID} (hs : SL h 2 IDC a xs) : PSpec Tryz.prog 109 #[a, .agg (idc x).toArray] h (fun _ v => v = .bool (decide (x ∈ xs))) := by
  obtain ⟨x1, x2⟩ := x
  refine pspec_of (vs := [a, .agg (idc (x1, x2)).toArray]) Tryz.func109 Tryz.ntmps109 rfl rfl ?_
  (focus (refine Wr ?_; refine S_c rfl rfl rfl (C_box rfl rfl ?_); intro b0_1; refine Sm rfl ?_; refine On ?_; refine Wr ?_; refine Sm rfl ?_; refine S_load rfl rfl rfl rfl rfl ?_; refine L_agg (Rd.own m0) (ty rfl) (by first | rfl | assumption) ?_; refine S_c rfl rfl rfl (C_callv (indexID_s (x := (_, _)) ‹_›) rfl rfl ⟨_, _, rfl, ⟨_, _, rfl, rfl, rfl⟩, rfl⟩ (cal rfl) ?_); refine Sc rfl rfl rfl rfl rfl rfl rfl ?_; refine Sm rfl ?_; refine On ?_; refine WP_ret ?_))
  refine pret (.inl rfl) rfl ⟨_, _, rfl, rfl, rfl⟩ ?_
  simp only [resOf]; rw [idxI_any, any_mem]; first | done | exact congrArg Value.bool (decide_eq_decide.2 Iff.rfl)
theorem has_s {h : Frag} {a : Value} {xs : List ID} {x : ID} (hs : SL h 2 IDC a xs) : PSpec Tryz.prog 67 #[a, .agg (idc x).toArray] h (fun _ v => v = .bool (decide (x ∈ xs))) := by
  obtain ⟨x1, x2⟩ := x
  refine pspec_of (vs := [a, .agg (idc (x1, x2)).toArray]) Tryz.func67 Tryz.ntmps67 rfl rfl ?_
  (focus (refine Wr ?_; refine S_c rfl rfl rfl (C_box rfl rfl ?_); intro b0_1; refine Sm rfl ?_; refine On ?_; refine Wr ?_; refine Sm rfl ?_; refine S_load rfl rfl rfl rfl rfl ?_; refine L_agg (Rd.own m0) (ty rfl) (by first | rfl | assumption) ?_; refine S_c rfl rfl rfl (C_callv (containsID_s (x := (_, _)) ‹_›) rfl rfl ⟨_, _, rfl, ⟨_, _, rfl, rfl, rfl⟩, rfl⟩ (cal rfl) ?_); refine Sm rfl ?_; refine On ?_; refine WP_ret ?_))
  refine pret (.inl rfl) rfl ⟨_, _, rfl, rfl, rfl⟩ ?_
  rfl
theorem refHas_s {h : Frag} {a : Value} {xs : List ID} {x : ID} (hs : SL h 2 IDC a xs) : PSpec Tryz.prog 15 #[a, .agg (idc x).toArray] h (fun _ v => v = .bool (decide (x ∈ xs))) := by
  have hl := hs.le
  refine pspec_of (vs := [a, .agg (idc x).toArray]) Tryz.func15 Tryz.ntmps15 rfl rfl ?_
  (focus (refine Wr ?_; refine S_c rfl rfl rfl (C_box rfl rfl ?_); intro b0_1; refine Sm rfl ?_; refine On ?_; refine WP_seq ?_; refine Wr ?_; refine Sm rfl ?_; refine On ?_; refine WP_block ?_))
  (refine WP_loopC (α := Nat) [3, 0] (fun (k : Nat) => xs.length - k) (fun (k : Nat) => [(5, .int .i64 k)]) (fun hh (k : Nat) => hh = h ∧ k ≤ xs.length ∧ (x ∈ xs.drop k ↔ x ∈ xs)) 0 ⟨_, _, rfl, ⟨_, _, rfl, rfl, rfl⟩, rfl⟩ (by repeat' first | exact trivial | refine ⟨rfl, ?_⟩) ?_ ?_)
  · exact ⟨rfl, Nat.zero_le _, by simp⟩
  rintro h1 k _ ⟨rfl, hk, ht⟩
  by_cases hlt : k < xs.length
  · obtain ⟨⟨y1, y2⟩, ex⟩ := get_of hlt
    have hod := drop_get ex
    rw [hod] at ht
    (focus (refine WP_seq ?_; refine Wr ?_; refine Sm rfl ?_; refine Sm rfl ?_; refine S_q rfl rfl rfl (Q_lenS rfl rfl rfl rfl rfl rfl ‹_›) ?_; refine Sc rfl rfl rfl rfl rfl rfl rfl ?_; refine On ?_; refine WP_cond rfl (fun c2_1 => ?_) (fun c2_1 => ?_) <;> (first | (simp [*] at c2_1; done) | (try simp at c2_1)); refine WP_skip ?_; refine then_n ?_; refine WP_seq ?_; refine WP_block ?_; refine WP_seq ?_; refine R_draw (n := 6) mixed rfl ?_; refine A_at 0 rfl rfl ?_; refine A_q (m' := 1) rfl rfl rfl (Q_move rfl rfl) rfl (by decide +kernel) ?_; refine A_at 1 rfl rfl ?_; refine A_q (m' := 3) rfl rfl rfl (Q_move rfl rfl) rfl (by decide +kernel) ?_; refine A_at 2 rfl rfl ?_; refine A_q (m' := 7) rfl rfl rfl (Q_indexS ‹_› ‹_› rfl rfl rfl (elm rfl) rfl) rfl (by decide +kernel) ?_; refine A_at 3 rfl rfl ?_; refine A_load (m' := 15) rfl rfl rfl rfl rfl rfl (by decide +kernel) ?_; refine L_elA ‹_› ‹_› (ty rfl) ?_; rintro _ _ _ rfl; refine A_at 4 rfl rfl ?_; refine A_load (m' := 31) rfl rfl rfl rfl rfl rfl (by decide +kernel) ?_; refine L_agg (Rd.own m0) (ty rfl) (by first | rfl | assumption) ?_; refine A_at 5 rfl rfl ?_; refine A_q (m' := 63) rfl rfl rfl (Q_eqI eqID rfl rfl rfl rfl rfl) rfl (by decide +kernel) ?_; refine A_done (by decide +kernel) ?_; refine then_n ?_; refine WP_cond rfl (fun c2_3 => ?_) (fun c2_3 => ?_) <;> (first | (simp [*] at c2_3; done) | (try simp at c2_3)); (focus (refine Wr ?_; refine Sm rfl ?_; refine On ?_; refine WP_ret ?_; refine block_r ?_; refine then_r ?_; refine roundF_r ?_; refine block_r ?_; refine then_r ?_)); rotate_left 1; (focus (refine WP_skip ?_; refine block_n ?_; refine then_n ?_; refine R_region ?_; refine Sm rfl ?_; refine S_q rfl rfl rfl (Q_add rfl rfl rfl (by omega)) ?_; refine Sm rfl ?_; refine OPS_nil ?_)); rotate_left 1))
    · refine pret (.inl rfl) rfl ⟨_, _, rfl, rfl, rfl⟩ ?_
      simp only [resOf, ← ht]; simp_all
    · refine roundF_n (k + 1) (by omega) ⟨rfl, by omega, ?_⟩ (by repeat' first | exact sR _ | exact sA _ _ | exact sN _ | apply s2 | apply s1) (by repeat' first | exact trivial | refine ⟨rfl, ?_⟩)
      rw [← ht]; simp only [List.mem_cons]; constructor
      · exact .inr
      · rintro (rfl | h)
        · simp_all
        · exact h
  · have hge : k = xs.length := by omega
    subst hge
    (focus (refine WP_seq ?_; refine Wr ?_; refine Sm rfl ?_; refine Sm rfl ?_; refine S_q rfl rfl rfl (Q_lenS rfl rfl rfl rfl rfl rfl ‹_›) ?_; refine Sc rfl rfl rfl rfl rfl rfl rfl ?_; refine On ?_; refine WP_cond rfl (fun c3_1 => ?_) (fun c3_1 => ?_) <;> (first | (simp [*] at c3_1; done) | (try simp at c3_1)); refine WP_exit ?_; refine then_e ?_; refine roundF_e ?_; refine block_e ?_; refine then_n ?_; refine Wr ?_; refine Sm rfl ?_; refine On ?_; refine WP_ret ?_))
    · refine pret (.inl rfl) rfl ⟨_, _, rfl, rfl, rfl⟩ ?_
      simp only [resOf, ← ht]; simp
theorem hasID_s {h : Frag} {a : Value} {xs : List ID} {x : ID} (hs : SL h 2 IDC a xs) : PSpec Tryz.prog 100 #[a, .agg (idc x).toArray] h (fun _ v => v = .bool (decide (x ∈ xs))) := by
  have hl := hs.le
  refine pspec_of (vs := [a, .agg (idc x).toArray]) Tryz.func100 Tryz.ntmps100 rfl rfl ?_
  (focus (refine Wr ?_; refine S_c rfl rfl rfl (C_box rfl rfl ?_); intro b0_1; refine Sm rfl ?_; refine On ?_; refine WP_seq ?_; refine Wr ?_; refine Sm rfl ?_; refine On ?_; refine WP_block ?_))
  (refine WP_loopC (α := Nat) [3, 0] (fun (k : Nat) => xs.length - k) (fun (k : Nat) => [(5, .int .i64 k)]) (fun hh (k : Nat) => hh = h ∧ k ≤ xs.length ∧ (x ∈ xs.drop k ↔ x ∈ xs)) 0 ⟨_, _, rfl, ⟨_, _, rfl, rfl, rfl⟩, rfl⟩ (by repeat' first | exact trivial | refine ⟨rfl, ?_⟩) ?_ ?_)
  · exact ⟨rfl, Nat.zero_le _, by simp⟩
  rintro h1 k _ ⟨rfl, hk, ht⟩
  by_cases hlt : k < xs.length
  · obtain ⟨⟨y1, y2⟩, ex⟩ := get_of hlt
    have hod := drop_get ex
    rw [hod] at ht
    (focus (refine WP_seq ?_; refine Wr ?_; refine Sm rfl ?_; refine Sm rfl ?_; refine S_q rfl rfl rfl (Q_lenS rfl rfl rfl rfl rfl rfl ‹_›) ?_; refine Sc rfl rfl rfl rfl rfl rfl rfl ?_; refine On ?_; refine WP_cond rfl (fun c2_1 => ?_) (fun c2_1 => ?_) <;> (first | (simp [*] at c2_1; done) | (try simp at c2_1)); refine WP_skip ?_; refine then_n ?_; refine WP_seq ?_; refine WP_block ?_; refine WP_seq ?_; refine R_draw (n := 6) mixed rfl ?_; refine A_at 0 rfl rfl ?_; refine A_q (m' := 1) rfl rfl rfl (Q_move rfl rfl) rfl (by decide +kernel) ?_; refine A_at 1 rfl rfl ?_; refine A_q (m' := 3) rfl rfl rfl (Q_move rfl rfl) rfl (by decide +kernel) ?_; refine A_at 2 rfl rfl ?_; refine A_q (m' := 7) rfl rfl rfl (Q_indexS ‹_› ‹_› rfl rfl rfl (elm rfl) rfl) rfl (by decide +kernel) ?_; refine A_at 3 rfl rfl ?_; refine A_load (m' := 15) rfl rfl rfl rfl rfl rfl (by decide +kernel) ?_; refine L_elA ‹_› ‹_› (ty rfl) ?_; rintro _ _ _ rfl; refine A_at 4 rfl rfl ?_; refine A_load (m' := 31) rfl rfl rfl rfl rfl rfl (by decide +kernel) ?_; refine L_agg (Rd.own m0) (ty rfl) (by first | rfl | assumption) ?_; refine A_at 5 rfl rfl ?_; refine A_q (m' := 63) rfl rfl rfl (Q_eqI eqID rfl rfl rfl rfl rfl) rfl (by decide +kernel) ?_; refine A_done (by decide +kernel) ?_; refine then_n ?_; refine WP_cond rfl (fun c2_3 => ?_) (fun c2_3 => ?_) <;> (first | (simp [*] at c2_3; done) | (try simp at c2_3)); (focus (refine Wr ?_; refine Sm rfl ?_; refine On ?_; refine WP_ret ?_; refine block_r ?_; refine then_r ?_; refine roundF_r ?_; refine block_r ?_; refine then_r ?_)); rotate_left 1; (focus (refine WP_skip ?_; refine block_n ?_; refine then_n ?_; refine R_region ?_; refine Sm rfl ?_; refine S_q rfl rfl rfl (Q_add rfl rfl rfl (by omega)) ?_; refine Sm rfl ?_; refine OPS_nil ?_)); rotate_left 1))
    · refine pret (.inl rfl) rfl ⟨_, _, rfl, rfl, rfl⟩ ?_
      simp only [resOf, ← ht]; simp_all
    · refine roundF_n (k + 1) (by omega) ⟨rfl, by omega, ?_⟩ (by repeat' first | exact sR _ | exact sA _ _ | exact sN _ | apply s2 | apply s1) (by repeat' first | exact trivial | refine ⟨rfl, ?_⟩)
      rw [← ht]; simp only [List.mem_cons]; constructor
      · exact .inr
      · rintro (rfl | h)
        · simp_all
        · exact h
  · have hge : k = xs.length := by omega
    subst hge
    (focus (refine WP_seq ?_; refine Wr ?_; refine Sm rfl ?_; refine Sm rfl ?_; refine S_q rfl rfl rfl (Q_lenS rfl rfl rfl rfl rfl rfl ‹_›) ?_; refine Sc rfl rfl rfl rfl rfl rfl rfl ?_; refine On ?_; refine WP_cond rfl (fun c3_1 => ?_) (fun c3_1 => ?_) <;> (first | (simp [*] at c3_1; done) | (try simp at c3_1)); refine WP_exit ?_; refine then_e ?_; refine roundF_e ?_; refine block_e ?_; refine then_n ?_; refine Wr ?_; refine Sm rfl ?_; refine On ?_; refine WP_ret ?_))
    · refine pret (.inl rfl) rfl ⟨_, _, rfl, rfl, rfl⟩ ?_
      simp only [resOf, ← ht]; simp
end Go.Proofs.YtfhoecgiahpddaaGreat
/-
  WHAT THE OBSERVER COMPUTES, in plain words over plain data.
-/
set_option linter.all false
namespace Go.Mesh
open Go.RowKit
def zeroV : View := ⟨0, [], [], [], [], [], [], []⟩
def viewOf (vs : List View) (m : Int) : Option View := vs.find? fun v => decide (v.machine = m)
def vwAt (vs : List View) (m : Int) : View := (viewOf vs m).getD zeroV
def idxOf (vs : List View) (m : Int) : Option Nat := vs.findIdx? fun v => decide (v.machine = m)
def recv (to : View) (m : Int) : Int := if 1 ≤ m ∧ m ≤ to.received.length then to.received.getD (m - 1).toNat 0 else 0
def flyB (vs : List View) (v : View) (x : Flight) : Bool := (viewOf vs x.to).isSome && decide (recv (vwAt vs x.to) v.machine < x.seq)
def scionOf (vs : List View) (machine client number : Int) : Option ScionE := (vwAt vs machine).scions.find? fun e => decide (e.client = client) && decide (e.number = number)
def moveOf (vs : List View) (frm to number : Int) : Option Flight := (vwAt vs frm).flights.find? fun x => decide (x.to = to) && (decide (x.msg.kind = 1) && (decide (x.msg.parcel.number = number) && flyB vs (vwAt vs frm) x))
def numberedOf (vs : List View) (frm to number : Int) : ID := match scionOf vs to frm number with
  | some e => e.id
  | none => match moveOf vs frm to number with
    | some x => x.msg.parcel.id
    | none => (0, 0)
def idOf (vs : List View) (frm to : Int) (r : Ref) : ID := if r.kind = 3 then r.id else if r.kind = 2 then numberedOf vs frm to r.number else (0, 0)
def valueOf (vs : List View) (frm to : Int) (r : Ref) : Val := if r.kind = 1 then (1, r.num, (0, 0)) else if idOf vs frm to r ≠ (0, 0) then (2, 0, idOf vs frm to r) else (0, 0, (0, 0))
/-- a fleet: its views, and a map from numbers to places -/
def FleetC : CR (List View) := fun h vs cs => ∃ p c mb ps, cs = [.slice p vs.length c, .map (some mb)] ∧ SLB 4398046511104 h 13 (ViewC 4398046511104) (.slice p vs.length c) vs ∧ IsMapP itv h mb ps ∧ ∀ m, mget m ps = (idxOf vs m).map fun (k : Nat) => .int .i64 (k : Int)
theorem FleetC_mono : CMono FleetC := fun _ _ _ _ hl ⟨p, c, mb, ps, e, s, m, q⟩ => ⟨p, c, mb, ps, e, s.mono hl (ViewC_mono _), m.up hl, q⟩
instance : CM FleetC := ⟨FleetC_mono⟩
theorem FleetC.up {h h' : Frag} {vs : List View} {cs : List Value} (x : FleetC h vs cs) (hl : le h h') : FleetC h' vs cs := FleetC_mono _ _ _ _ hl x
theorem ViewC.up {B : Nat} {h h' : Frag} {v : View} {cs : List Value} (x : ViewC B h v cs) (hl : le h h') : ViewC B h' v cs := ViewC_mono B _ _ _ _ hl x
theorem NodeC.up {B : Nat} {h h' : Frag} {v : Nd} {cs : List Value} (x : NodeC B h v cs) (hl : le h h') : NodeC B h' v cs := NodeC_mono B _ _ _ _ hl x
theorem GraphC.up {B : Nat} {h h' : Frag} {v : List Nd} {cs : List Value} (x : GraphC B h v cs) (hl : le h h') : GraphC B h' v cs := GraphC_mono B _ _ _ _ hl x
theorem FlightC.up {B : Nat} {h h' : Frag} {v : Flight} {cs : List Value} (x : FlightC B h v cs) (hl : le h h') : FlightC B h' v cs := FlightC_mono B _ _ _ _ hl x
theorem idxOf_take {vs : List View} {k : Nat} {v : View} {m : Int} (hv : vs[k]? = some v) : idxOf (vs.take (k + 1)) m = if (idxOf (vs.take k) m).isSome then idxOf (vs.take k) m else if v.machine = m then some k else none := by
  have hlt : k < vs.length := (List.getElem?_eq_some_iff.1 hv).1
  unfold idxOf
  rw [List.take_add_one, hv, List.findIdx?_append]
  cases h : (vs.take k).findIdx? fun v => decide (v.machine = m) with
  | some j => simp
  | none => by_cases hm : v.machine = m <;> simp [hm, Nat.min_eq_left (Nat.le_of_lt hlt)]
theorem idxOf_view {vs : List View} {m : Int} {k : Nat} (h : idxOf vs m = some k) : ∃ v, vs[k]? = some v ∧ viewOf vs m = some v := Go.Proofs.YtfhoecgiahpddaaGreat.findIdx_find h
theorem idxOf_none {vs : List View} {m : Int} (h : idxOf vs m = none) : viewOf vs m = none := Go.Proofs.YtfhoecgiahpddaaGreat.findIdx_none h
end Go.Mesh
/-
  CONTRACTS: the fleet of views; its views, flights on their way, scions, identities and values.
-/
set_option linter.all false
namespace Go.Proofs.YtfhoecgiahpddaaGreat
open Go.Mesh Go.RowKit
set_option maxRecDepth 100000
set_option linter.unusedVariables false
set_option maxHeartbeats 4000000
attribute [local irreducible] WP OPS ANY ANYo LG LV FSpec PSpec QOP OPc OPw thenQ blockQ roundQ roundF retQ retM Rd At SLB OS cmpI orI cmpID namedB valB nodeB kindB validG valAux idxI findG
attribute [local irreducible] zeroV viewOf vwAt idxOf recv flyB scionOf moveOf numberedOf idOf valueOf mget mput
theorem of_s {h : Frag} {a : Value} {vs : List View} (hs : SL h 13 (ViewC 4398046511104) a vs) : PSpec Tryz.prog 33 #[a] h (fun h' v => ∃ p c mb, v = .agg #[.slice p vs.length c, .map (some mb)] ∧ FleetC h' vs [.slice p vs.length c, .map (some mb)]) := by
  have hl := hs.le
  obtain ⟨p, cap, rfl⟩ := hs.slice
  refine pspec_of (vs := [.slice p vs.length cap]) Tryz.func33 Tryz.ntmps33 rfl rfl ?_
  (focus (refine Wr ?_; refine S_c rfl rfl rfl (C_alloc rfl (zer rfl) ?_); intro b0_1; refine On ?_; refine Wr ?_; refine Sm rfl ?_; refine S_c rfl rfl rfl (C_makeMapK itk rfl rfl ?_); intro b0_2; refine S_q rfl rfl rfl (Q_build rfl (by decide +kernel) (zer rfl) ⟨_, _, _, _, _, _, _, rfl, fld rfl rfl, ty rfl, rfl, rfl, ⟨_, _, _, _, _, _, _, rfl, fld rfl rfl, ty rfl, rfl, rfl, rfl, rfl⟩, rfl⟩ rfl) ?_; refine S_c rfl rfl rfl (C_alloc rfl (zer rfl) ?_); intro b0_3; refine S_w0 rfl rfl (W_all rfl rfl rfl (ty rfl) u0 (by first | rfl | assumption) (by first | rfl | assumption) (by first | rfl | assumption | exact ones_sub ‹_› _ _) ?_); refine On ?_; refine WP_seq ?_; refine Wr ?_; refine Sm rfl ?_; refine S_q rfl rfl rfl (Q_len rfl rfl rfl rfl rfl rfl) ?_; refine Sm rfl ?_; refine On ?_; refine WP_block ?_))
  (refine WP_loopM (α := Nat × List (Int × Value)) [_]  _ [12, 11, 3, 2] (fun (s : Nat × List (Int × Value)) => vs.length - s.1) (fun (s : Nat × List (Int × Value)) =>  [(b0_2, mapObj itv s.2)]) (fun (s : Nat × List (Int × Value)) => [(13, .int .i64 s.1)]) (fun hh (s : Nat × List (Int × Value)) => hh = h ∧ s.1 ≤ vs.length ∧ ∀ m, mget m s.2 = (idxOf (vs.take s.1) m).map fun (k : Nat) => .int .i64 (k : Int)) (0, []) rfl ⟨_, _, rfl, ⟨_, _, rfl, ⟨_, _, rfl, ⟨_, _, rfl, rfl, rfl⟩, rfl⟩, rfl⟩, rfl⟩ (by repeat' first | exact trivial | refine ⟨rfl, ?_⟩) ?_ ?_)
  · refine ⟨rfl, Nat.zero_le _, fun m => ?_⟩
    unfold idxOf mget; simp
  rintro h1 ⟨k, ps⟩ _ ⟨rfl, hk, hq⟩
  simp only at hk hq
  by_cases hlt : k < vs.length
  · obtain ⟨v, ev⟩ := get_of hlt
    have hqm := hq v.machine
    have hnx := fun m => idxOf_take (m := m) ev
    cases hi : idxOf (vs.take k) v.machine with
    | some j =>
      rw [hi] at hqm
      simp only [Option.map_some] at hqm
      (focus (refine Wr ?_; refine Sc rfl rfl rfl rfl rfl rfl rfl ?_; refine On ?_; refine WP_seq ?_; refine WP_cond rfl (fun c2_1 => ?_) (fun c2_1 => ?_) <;> (first | (simp [*] at c2_1; done) | (try simp at c2_1)); refine WP_skip ?_; refine then_n ?_; refine WP_seq ?_; refine WP_block ?_; refine Wr ?_; refine Sm rfl ?_; refine S_q rfl rfl rfl (Q_indexS ‹_› ‹_› rfl rfl rfl (elm rfl) rfl) ?_; refine S_load rfl rfl rfl rfl rfl ?_; refine L_elA ‹_› ‹_› (ty rfl) ?_; rintro _ _ _ ⟨xi2_2, xa2_2, po2_2, qo2_2, ps2_2, qs2_2, pc2_2, qc2_2, pn2_2, qn2_2, pm2_2, qm2_2, xw2_2, xv2_2, pf2_2, qf2_2, pr2_2, qr2_2, xe2_2, xf2_2, rfl, vo2_2, vs2_2, vc2_2, vn2_2, vm2_2, vf2_2, vr2_2⟩; refine S_c rfl rfl rfl (C_alloc rfl (zer rfl) ?_); intro b2_3; refine Sm rfl ?_; refine S_w0 rfl rfl (W_all rfl rfl rfl (ty rfl) u0 (by first | rfl | assumption) (by first | rfl | assumption) (by first | rfl | assumption | exact ones_sub ‹_› _ _) ?_); refine On ?_; refine Wr ?_; refine Sf rfl rfl rfl rfl rfl (fld rfl rfl) ?_; refine S_load rfl rfl rfl rfl rfl ?_; refine L_fld (Rd.own m1) (ty rfl) rfl ?_; refine Sf rfl rfl rfl rfl rfl (fld rfl rfl) ?_; refine S_load rfl rfl rfl rfl rfl ?_; refine L_fld (Rd.own m0) (ty rfl) rfl ?_; refine S_q rfl rfl rfl (Q_lookupOkS rfl rfl rfl itk rfl rfl (.inr m2) ‹_›) ?_; refine Sm rfl ?_; refine S_q rfl rfl rfl (Q_extract rfl rfl rfl) ?_; refine S_q rfl rfl rfl (Q_extract rfl rfl rfl) ?_; refine Sm rfl ?_; refine Sm rfl ?_; refine On ?_; refine Wr ?_; refine Sm rfl ?_; refine S_q rfl rfl rfl (Q_not rfl rfl) ?_; refine On ?_; refine cond_f rfl ?_; refine WP_skip ?_; refine block_n ?_; refine then_n ?_; refine R_region ?_; refine S_q rfl rfl rfl (Q_add rfl rfl rfl (by omega)) ?_; refine Sm rfl ?_; refine OPS_nil ?_))
      refine roundF_n (k + 1, ps) (by simp only; omega) ⟨rfl, by simp only; omega, fun m => ?_⟩ (by repeat' first | exact sR _ | exact sA _ _ | exact sN _ | apply s2 | apply s1) (by repeat' first | exact trivial | refine ⟨rfl, ?_⟩)
      simp only
      rw [hq m, hnx m]
      by_cases hm : v.machine = m
      · subst hm; rw [hi]; simp
      · cases hx : idxOf (vs.take k) m <;> simp [hm]
    | none =>
      rw [hi] at hqm
      simp only [Option.map_none] at hqm
      (focus (refine Wr ?_; refine Sc rfl rfl rfl rfl rfl rfl rfl ?_; refine On ?_; refine WP_seq ?_; refine WP_cond rfl (fun c3_1 => ?_) (fun c3_1 => ?_) <;> (first | (simp [*] at c3_1; done) | (try simp at c3_1)); refine WP_skip ?_; refine then_n ?_; refine WP_seq ?_; refine WP_block ?_; refine Wr ?_; refine Sm rfl ?_; refine S_q rfl rfl rfl (Q_indexS ‹_› ‹_› rfl rfl rfl (elm rfl) rfl) ?_; refine S_load rfl rfl rfl rfl rfl ?_; refine L_elA ‹_› ‹_› (ty rfl) ?_; rintro _ _ _ ⟨xi3_2, xa3_2, po3_2, qo3_2, ps3_2, qs3_2, pc3_2, qc3_2, pn3_2, qn3_2, pm3_2, qm3_2, xw3_2, xv3_2, pf3_2, qf3_2, pr3_2, qr3_2, xe3_2, xf3_2, rfl, vo3_2, vs3_2, vc3_2, vn3_2, vm3_2, vf3_2, vr3_2⟩; refine S_c rfl rfl rfl (C_alloc rfl (zer rfl) ?_); intro b3_3; refine Sm rfl ?_; refine S_w0 rfl rfl (W_all rfl rfl rfl (ty rfl) u0 (by first | rfl | assumption) (by first | rfl | assumption) (by first | rfl | assumption | exact ones_sub ‹_› _ _) ?_); refine On ?_; refine Wr ?_; refine Sf rfl rfl rfl rfl rfl (fld rfl rfl) ?_; refine S_load rfl rfl rfl rfl rfl ?_; refine L_fld (Rd.own m1) (ty rfl) rfl ?_; refine Sf rfl rfl rfl rfl rfl (fld rfl rfl) ?_; refine S_load rfl rfl rfl rfl rfl ?_; refine L_fld (Rd.own m0) (ty rfl) rfl ?_; refine S_q rfl rfl rfl (Q_lookupOkN rfl rfl rfl itk rfl rfl (.inr m2) ‹_›) ?_; refine Sm rfl ?_; refine S_q rfl rfl rfl (Q_extract rfl rfl rfl) ?_; refine S_q rfl rfl rfl (Q_extract rfl rfl rfl) ?_; refine Sm rfl ?_; refine Sm rfl ?_; refine On ?_; refine Wr ?_; refine Sm rfl ?_; refine S_q rfl rfl rfl (Q_not rfl rfl) ?_; refine On ?_; refine cond_t rfl ?_; refine R_region ?_; refine Sf rfl rfl rfl rfl rfl (fld rfl rfl) ?_; refine S_load rfl rfl rfl rfl rfl ?_; refine L_fld (Rd.own m1) (ty rfl) rfl ?_; refine Sf rfl rfl rfl rfl rfl (fld rfl rfl) ?_; refine S_load rfl rfl rfl rfl rfl ?_; refine L_fld (Rd.own m0) (ty rfl) rfl ?_; refine Sm rfl ?_; refine S_w0 rfl rfl (W_mapUpdate rfl rfl rfl rfl itk rfl u2 ?_); refine OPS_nil ?_; refine block_n ?_; refine then_n ?_; refine R_region ?_; refine S_q rfl rfl rfl (Q_add rfl rfl rfl (by omega)) ?_; refine Sm rfl ?_; refine OPS_nil ?_))
      refine roundF_n (k + 1, mput v.machine (.int .i64 k) ps) (by simp only; omega) ⟨rfl, by simp only; omega, fun m => ?_⟩ (by repeat' first | exact sR _ | exact sA _ _ | exact sN _ | apply s2 | apply s1) (by repeat' first | exact trivial | refine ⟨rfl, ?_⟩)
      simp only
      rw [mget_mput, hnx m]
      by_cases hm : v.machine = m
      · subst hm; rw [hi]; simp
      · rw [if_neg hm, hq m]; cases hx : idxOf (vs.take k) m <;> simp [hm]
  · have hge : k = vs.length := by omega
    subst hge
    (focus (refine Wr ?_; refine Sc rfl rfl rfl rfl rfl rfl rfl ?_; refine On ?_; refine WP_seq ?_; refine WP_cond rfl (fun c4_1 => ?_) (fun c4_1 => ?_) <;> (first | (simp [*] at c4_1; done) | (try simp at c4_1)); refine WP_exit ?_; refine then_e ?_; refine roundF_e ?_; refine block_e ?_; refine then_n ?_; refine Wr ?_; refine S_load rfl rfl rfl rfl rfl ?_; refine L_agg (Rd.own m0) (ty rfl) (by first | rfl | assumption) ?_; refine S_w0 rfl rfl (W_all rfl rfl rfl (ty rfl) u2 (by first | rfl | assumption) (by first | rfl | assumption) (by first | rfl | assumption | exact ones_sub ‹_› _ _) ?_); refine On ?_; refine WP_ret ?_))
    refine pretKM [_] [(b0_2, mapObj itv ps)] _ rfl (.inl rfl) rfl ⟨_, _, _, rfl, Loads_agg (Rd.own m2) (ty rfl) rfl, rfl, rfl⟩ fun h' hl' hm => ?_
    exact ⟨p, cap, b0_2, rfl, p, cap, b0_2, ps, rfl, hs.up hl', hm _ (List.Mem.head _), fun m => by rw [hq m, List.take_length]⟩
theorem view_s {h : Frag} {cs : List Value} {vs : List View} {m : Int} (hf : FleetC h vs cs) : PSpec Tryz.prog 55 #[.agg cs.toArray, .int .i64 m] h (fun _ v => ∃ us, v = .tuple #[.agg us.toArray, .bool (viewOf vs m).isSome] ∧ us.length = 13 ∧ ones us = true ∧ ViewC 4398046511104 h (vwAt vs m) us) := by
  obtain ⟨p, c, mb, ps, rfl, fv, fm, fq⟩ := hf
  refine pspec_of (vs := [.agg [Value.slice p vs.length c, .map (some mb)].toArray, .int .i64 m]) Tryz.func55 Tryz.ntmps55 rfl rfl ?_
  have hq := fq m
  clear fq
  cases hi : idxOf vs m with
  | none =>
    rw [hi] at hq
    simp only [Option.map_none] at hq
    have hv := idxOf_none hi
    (focus (refine Wr ?_; refine S_c rfl rfl rfl (C_box rfl rfl ?_); intro b0_1; refine S_c rfl rfl rfl (C_alloc rfl (zer rfl) ?_); intro b0_2; refine Sm rfl ?_; refine On ?_; refine Wr ?_; refine Sf rfl rfl rfl rfl rfl (fld rfl rfl) ?_; refine S_load rfl rfl rfl rfl rfl ?_; refine L_fld (Rd.own m1) (ty rfl) rfl ?_; refine Sm rfl ?_; refine S_q rfl rfl rfl (Q_lookupOkN rfl rfl rfl itk rfl rfl (.inl ‹_›) ‹_›) ?_; refine Sm rfl ?_; refine S_q rfl rfl rfl (Q_extract rfl rfl rfl) ?_; refine S_q rfl rfl rfl (Q_extract rfl rfl rfl) ?_; refine Sm rfl ?_; refine Sm rfl ?_; refine On ?_; refine WP_seq ?_; refine Wr ?_; refine Sm rfl ?_; refine S_q rfl rfl rfl (Q_not rfl rfl) ?_; refine On ?_; refine cond_t rfl ?_; refine Wr ?_; refine S_q rfl rfl rfl (Q_build rfl (by decide +kernel) (zer rfl) rfl rfl) ?_; refine S_w0 rfl rfl (W_all rfl rfl rfl (ty rfl) u0 (by first | rfl | assumption) (by first | rfl | assumption) (by first | rfl | assumption | exact ones_sub ‹_› _ _) ?_); refine Sm rfl ?_; refine On ?_; refine WP_ret ?_; refine then_r ?_))
    refine pret (.inl rfl) rfl ⟨_, _, _, rfl, Loads_agg (Rd.own m0) (ty rfl) rfl, ⟨_, _, rfl, rfl, rfl⟩, rfl⟩ ?_
    have hz : vwAt vs m = zeroV := by rw [vwAt, hv]; rfl
    rw [hz, hv, zeroV]
    refine ⟨_, rfl, rfl, rfl, by unfold inI64; decide, _, _, _, _, _, _, _, _, _, _, _, _, _, _, _, _, _, _, _, rfl, ?_⟩
    exact ⟨SLB.nil _ _ _ _ _ _, SLB.nil _ _ _ _ _ _, SLB.nil _ _ _ _ _ _, SLB.nil _ _ _ _ _ _, SLB.nil _ _ _ _ _ _, SLB.nil _ _ _ _ _ _, SLB.nil _ _ _ _ _ _⟩
  | some k =>
    rw [hi] at hq
    simp only [Option.map_some] at hq
    obtain ⟨v, ev, hv⟩ := idxOf_view hi
    (focus (refine Wr ?_; refine S_c rfl rfl rfl (C_box rfl rfl ?_); intro b1_1; refine S_c rfl rfl rfl (C_alloc rfl (zer rfl) ?_); intro b1_2; refine Sm rfl ?_; refine On ?_; refine Wr ?_; refine Sf rfl rfl rfl rfl rfl (fld rfl rfl) ?_; refine S_load rfl rfl rfl rfl rfl ?_; refine L_fld (Rd.own m1) (ty rfl) rfl ?_; refine Sm rfl ?_; refine S_q rfl rfl rfl (Q_lookupOkS rfl rfl rfl itk rfl rfl (.inl ‹_›) ‹_›) ?_; refine Sm rfl ?_; refine S_q rfl rfl rfl (Q_extract rfl rfl rfl) ?_; refine S_q rfl rfl rfl (Q_extract rfl rfl rfl) ?_; refine Sm rfl ?_; refine Sm rfl ?_; refine On ?_; refine WP_seq ?_; refine Wr ?_; refine Sm rfl ?_; refine S_q rfl rfl rfl (Q_not rfl rfl) ?_; refine On ?_; refine cond_f rfl ?_; refine WP_skip ?_; refine then_n ?_; refine Wr ?_; refine Sf rfl rfl rfl rfl rfl (fld rfl rfl) ?_; refine S_load rfl rfl rfl rfl rfl ?_; refine L_fld (Rd.own m1) (ty rfl) rfl ?_; refine Sm rfl ?_; refine S_q rfl rfl rfl (Q_indexS ‹_› ‹_› rfl rfl rfl (elm rfl) rfl) ?_; refine S_load rfl rfl rfl rfl rfl ?_; refine L_elA ‹_› ‹_› (ty rfl) ?_; rintro _ _ _ ⟨xi1_3, xa1_3, po1_3, qo1_3, ps1_3, qs1_3, pc1_3, qc1_3, pn1_3, qn1_3, pm1_3, qm1_3, xw1_3, xv1_3, pf1_3, qf1_3, pr1_3, qr1_3, xe1_3, xf1_3, rfl, vo1_3, vs1_3, vc1_3, vn1_3, vm1_3, vf1_3, vr1_3⟩; refine S_w0 rfl rfl (W_all rfl rfl rfl (ty rfl) u0 (by first | rfl | assumption) (by first | rfl | assumption) (by first | rfl | assumption | exact ones_sub ‹_› _ _) ?_); refine Sm rfl ?_; refine On ?_; refine WP_ret ?_))
    refine pret (.inl rfl) rfl ⟨_, _, _, rfl, Loads_agg (Rd.own m0) (ty rfl) rfl, ⟨_, _, rfl, rfl, rfl⟩, rfl⟩ ?_
    have hz : vwAt vs m = v := by rw [vwAt, hv]; rfl
    rw [hz, hv]
    exact ⟨_, rfl, rfl, by assumption, xi1_3, _, _, _, _, _, _, _, _, _, _, _, _, _, _, _, _, _, _, _, rfl, vo1_3, vs1_3, vc1_3, vn1_3, vm1_3, vf1_3, vr1_3⟩
/-- the number before, as 64 bits have it -/
theorem wrap_pred {m : Int} (hm : inI64 m) {n : Nat} (hn : n ≤ 4398046511104) : ((0 ≤ IntKind.i64.wrap (m - 1) ∧ IntKind.i64.wrap (m - 1) < n) ↔ (1 ≤ m ∧ m ≤ n)) ∧ (1 ≤ m → IntKind.i64.wrap (m - 1) = m - 1) := by
  unfold inI64 at hm
  by_cases h : m = -9223372036854775808
  · subst h
    have : IntKind.i64.wrap (-9223372036854775808 - 1) = 9223372036854775807 := by decide
    rw [this]; omega
  · have : IntKind.i64.wrap (m - 1) = m - 1 := IntWalk.i64_in _ (by omega)
    rw [this]; omega
theorem view_mem {vs : List View} {m : Int} {v : View} (h : viewOf vs m = some v) : ∃ k : Nat, vs[k]? = some v := by
  unfold viewOf at h
  obtain ⟨k, hk⟩ := List.getElem?_of_mem (List.mem_of_find?_eq_some h)
  exact ⟨k, hk⟩
theorem vwAt_recv {h : Frag} {a : Value} {vs : List View} (s : SL h 13 (ViewC 4398046511104) a vs) (m : Int) : (vwAt vs m).received.length ≤ 4398046511104 := by
  unfold vwAt
  cases hv : viewOf vs m with
  | none => rw [zeroV]; simp
  | some v =>
    obtain ⟨k, hk⟩ := view_mem hv
    obtain ⟨_, _, us, _, _, hc, _⟩ := s.at hk
    obtain ⟨hi, xa, po, qo, qs, qt, pc, qc, pn, qn, pm, qm, xw, xv, pf, qf, pr, qr, xe, xf, _, _, _, _, _, _, _, hr⟩ := hc
    exact hr.le
theorem flying_s {h : Frag} {cs us ws : List Value} {vs : List View} {v : View} {x : Flight} (hf : FleetC h vs cs) (hv : ViewC 4398046511104 h v us) (hx : FlightC 4398046511104 h x ws) : PSpec Tryz.prog 78 #[.agg cs.toArray, .agg us.toArray, .agg ws.toArray] h (fun _ u => u = .bool (flyB vs v x)) := by
  obtain ⟨p, c, mb, ps, rfl, fv, fm, fq⟩ := hf
  have hf : FleetC h vs [.slice p vs.length c, .map (some mb)] := ⟨p, c, mb, ps, rfl, fv, fm, fq⟩
  obtain ⟨hi, xa, po, qo, qs, qt, pc, qc, pn, qn, pm, qm, xw, xv, pf, qf, pr, qr, xe, xf, rfl, -⟩ := hv
  obtain ⟨ya, yb, yc, yd, ye, pa, qa, pg, qg, ph, qh, yw, y1, y2, y3, y4, y5, y6, y7, y8, y9, y10, y11, y12, y13, y14, y15, rfl, -⟩ := hx
  refine pspec_of (vs := [.agg [Value.slice p vs.length c, .map (some mb)].toArray, .agg _, .agg _]) Tryz.func78 Tryz.ntmps78 rfl rfl ?_
  have hrl := vwAt_recv fv x.to
  obtain ⟨hw1, hw2⟩ := wrap_pred hi hrl
  have hfl : flyB vs v x = ((viewOf vs x.to).isSome && decide (recv (vwAt vs x.to) v.machine < x.seq)) := by rw [flyB]
  clear fq fm fv
  by_cases hr : 1 ≤ v.machine ∧ v.machine ≤ (vwAt vs x.to).received.length
  · have hw := hw2 hr.1
    obtain ⟨j, hj⟩ := Int.eq_ofNat_of_zero_le (a := v.machine - 1) (by omega)
    obtain ⟨y, ey⟩ := get_of (xs := (vwAt vs x.to).received) (k := j) (by omega)
    have hrc : recv (vwAt vs x.to) v.machine = y := by rw [recv, if_pos hr, hj]; simp [ey]
    rw [hrc] at hfl
    clear hw1 hw2
    (focus (refine Wr ?_; refine S_c rfl rfl rfl (C_box rfl rfl ?_); intro b0_1; refine S_c rfl rfl rfl (C_box rfl rfl ?_); intro b0_2; refine S_c rfl rfl rfl (C_box rfl rfl ?_); intro b0_3; refine Sm rfl ?_; refine On ?_; refine Wr ?_; refine S_load rfl rfl rfl rfl rfl ?_; refine L_agg (Rd.own m2) (ty rfl) (by first | rfl | assumption) ?_; refine Sf rfl rfl rfl rfl rfl (fld rfl rfl) ?_; refine S_load rfl rfl rfl rfl rfl ?_; refine L_fld (Rd.own m0) (ty rfl) rfl ?_; refine S_c rfl rfl rfl (C_call0 (view_s ‹_›) rfl rfl ⟨_, _, rfl, ⟨_, _, rfl, rfl, rfl⟩, rfl⟩ (cal rfl) ?_); rintro _ ⟨cv0_4, rfl, cl0_4, co0_4, ⟨xi0_4, xa0_4, po0_4, qo0_4, ps0_4, qs0_4, pc0_4, qc0_4, pn0_4, qn0_4, pm0_4, qm0_4, xw0_4, xv0_4, pf0_4, qf0_4, pr0_4, qr0_4, xe0_4, xf0_4, rfl, vo0_4, vs0_4, vc0_4, vn0_4, vm0_4, vf0_4, vr0_4⟩⟩; refine Sm rfl ?_; refine S_q rfl rfl rfl (Q_extract rfl rfl rfl) ?_; refine S_q rfl rfl rfl (Q_extract rfl rfl rfl) ?_; refine S_c rfl rfl rfl (C_alloc rfl (zer rfl) ?_); intro b0_5; refine S_w0 rfl rfl (W_all rfl rfl rfl (ty rfl) u0 (by first | rfl | assumption) (by first | rfl | assumption) (by first | rfl | assumption | exact ones_sub ‹_› _ _) ?_); refine Sm rfl ?_; refine On ?_; refine Wr ?_; refine Sm rfl ?_; refine On ?_; refine WP_seq ?_; refine Wr ?_; refine Sf rfl rfl rfl rfl rfl (fld rfl rfl) ?_; refine S_load rfl rfl rfl rfl rfl ?_; refine L_fld (Rd.own m2) (ty rfl) rfl ?_; refine S_q rfl rfl rfl (Q_sub rfl rfl rfl (by omega)) ?_; refine Sm rfl ?_; refine On ?_; refine Wr ?_; refine Sm rfl ?_; refine Sc rfl rfl rfl rfl rfl rfl rfl ?_; refine Sm rfl ?_; refine S_gsplit rfl rfl rfl rfl (fun c0_6 => ?_) (fun c0_6 => ?_) <;> (try simp at c0_6); (focus (refine S_gq rfl rfl rfl rfl rfl rfl (Q_move rfl rfl) ?_; refine S_gq rfl rfl rfl rfl rfl rfl (Q_fieldAddr rfl rfl (fld rfl rfl)) ?_; refine S_gload rfl rfl rfl rfl rfl rfl rfl rfl ?_; refine L_fld (Rd.own m0) (ty rfl) rfl ?_; refine S_gq rfl rfl rfl rfl rfl rfl (Q_len rfl rfl rfl rfl rfl rfl) ?_; refine S_gq rfl rfl rfl rfl rfl rfl (Q_cmp rfl rfl rfl rfl) ?_; refine S_q rfl rfl rfl (Q_pick_t rfl rfl rfl) ?_; refine On ?_; refine WP_cond rfl (fun c0_7 => ?_) (fun c0_7 => ?_) <;> (try simp at c0_7); (focus (refine R_region ?_; refine Sf rfl rfl rfl rfl rfl (fld rfl rfl) ?_; refine S_load rfl rfl rfl rfl rfl ?_; refine L_fld (Rd.own m0) (ty rfl) rfl ?_; refine Sm rfl ?_; refine S_q rfl rfl rfl (Q_indexS ‹_› ‹_› rfl rfl rfl (elm rfl) (by omega)) ?_; refine S_load rfl rfl rfl rfl rfl ?_; refine L_el1 ‹_› ‹_› (ty rfl) ?_; rintro _ ⟨⟩; refine Sm rfl ?_; refine On ?_; refine Wr ?_; refine Sm rfl ?_; refine Sm rfl ?_; refine S_gsplit rfl rfl rfl rfl (fun c0_9 => ?_) (fun c0_9 => ?_) <;> (try simp at c0_9); (focus (refine S_gq rfl rfl rfl rfl rfl rfl (Q_fieldAddr rfl rfl (fld rfl rfl)) ?_; refine S_gload rfl rfl rfl rfl rfl rfl rfl rfl ?_; refine L_fld (Rd.own m1) (ty rfl) rfl ?_; refine S_gq rfl rfl rfl rfl rfl rfl (Q_move rfl rfl) ?_; refine S_gq rfl rfl rfl rfl rfl rfl (Q_cmp rfl rfl rfl rfl) ?_; refine S_q rfl rfl rfl (Q_pick_t rfl rfl rfl) ?_; refine Sm rfl ?_; refine On ?_; refine WP_ret ?_)); rotate_left 1; (focus (refine Sn rfl ?_; refine Sn rfl ?_; refine Sn rfl ?_; refine Sn rfl ?_; refine S_q rfl rfl rfl (Q_pick_f rfl rfl rfl) ?_; refine Sm rfl ?_; refine On ?_; refine WP_ret ?_)); rotate_left 1)); rotate_left 2; (focus (exfalso; omega)))); rotate_left 2; (focus (exfalso; omega))))
    all_goals refine pret (.inl rfl) rfl ⟨_, _, rfl, rfl, rfl⟩ ?_
    all_goals (rw [hfl]; clear hfl hf; simp [resOf, *])
  · have hrc : recv (vwAt vs x.to) v.machine = 0 := by rw [recv, if_neg hr]
    rw [hrc] at hfl
    rw [← hw1] at hr
    clear hw1 hw2
    (focus (refine Wr ?_; refine S_c rfl rfl rfl (C_box rfl rfl ?_); intro b1_1; refine S_c rfl rfl rfl (C_box rfl rfl ?_); intro b1_2; refine S_c rfl rfl rfl (C_box rfl rfl ?_); intro b1_3; refine Sm rfl ?_; refine On ?_; refine Wr ?_; refine S_load rfl rfl rfl rfl rfl ?_; refine L_agg (Rd.own m2) (ty rfl) (by first | rfl | assumption) ?_; refine Sf rfl rfl rfl rfl rfl (fld rfl rfl) ?_; refine S_load rfl rfl rfl rfl rfl ?_; refine L_fld (Rd.own m0) (ty rfl) rfl ?_; refine S_c rfl rfl rfl (C_call0 (view_s ‹_›) rfl rfl ⟨_, _, rfl, ⟨_, _, rfl, rfl, rfl⟩, rfl⟩ (cal rfl) ?_); rintro _ ⟨cv1_4, rfl, cl1_4, co1_4, ⟨xi1_4, xa1_4, po1_4, qo1_4, ps1_4, qs1_4, pc1_4, qc1_4, pn1_4, qn1_4, pm1_4, qm1_4, xw1_4, xv1_4, pf1_4, qf1_4, pr1_4, qr1_4, xe1_4, xf1_4, rfl, vo1_4, vs1_4, vc1_4, vn1_4, vm1_4, vf1_4, vr1_4⟩⟩; refine Sm rfl ?_; refine S_q rfl rfl rfl (Q_extract rfl rfl rfl) ?_; refine S_q rfl rfl rfl (Q_extract rfl rfl rfl) ?_; refine S_c rfl rfl rfl (C_alloc rfl (zer rfl) ?_); intro b1_5; refine S_w0 rfl rfl (W_all rfl rfl rfl (ty rfl) u0 (by first | rfl | assumption) (by first | rfl | assumption) (by first | rfl | assumption | exact ones_sub ‹_› _ _) ?_); refine Sm rfl ?_; refine On ?_; refine Wr ?_; refine Sm rfl ?_; refine On ?_; refine WP_seq ?_; refine Wr ?_; refine Sf rfl rfl rfl rfl rfl (fld rfl rfl) ?_; refine S_load rfl rfl rfl rfl rfl ?_; refine L_fld (Rd.own m2) (ty rfl) rfl ?_; refine S_q rfl rfl rfl (Q_arith rfl rfl rfl rfl) ?_; refine Sm rfl ?_; refine On ?_; refine Wr ?_; refine Sm rfl ?_; refine Sc rfl rfl rfl rfl rfl rfl rfl ?_; refine Sm rfl ?_; refine S_gsplit rfl rfl rfl rfl (fun c1_6 => ?_) (fun c1_6 => ?_) <;> (try simp at c1_6); (focus (refine S_gq rfl rfl rfl rfl rfl rfl (Q_move rfl rfl) ?_; refine S_gq rfl rfl rfl rfl rfl rfl (Q_fieldAddr rfl rfl (fld rfl rfl)) ?_; refine S_gload rfl rfl rfl rfl rfl rfl rfl rfl ?_; refine L_fld (Rd.own m0) (ty rfl) rfl ?_; refine S_gq rfl rfl rfl rfl rfl rfl (Q_len rfl rfl rfl rfl rfl rfl) ?_; refine S_gq rfl rfl rfl rfl rfl rfl (Q_cmp rfl rfl rfl rfl) ?_; refine S_q rfl rfl rfl (Q_pick_t rfl rfl rfl) ?_; refine On ?_; refine WP_cond rfl (fun c1_7 => ?_) (fun c1_7 => ?_) <;> (try simp at c1_7); (focus (exfalso; omega)); (focus (refine WP_skip ?_; refine then_n ?_; refine Wr ?_; refine Sm rfl ?_; refine Sm rfl ?_; refine S_gsplit rfl rfl rfl rfl (fun c1_8 => ?_) (fun c1_8 => ?_) <;> (try simp at c1_8); (focus (refine S_gq rfl rfl rfl rfl rfl rfl (Q_fieldAddr rfl rfl (fld rfl rfl)) ?_; refine S_gload rfl rfl rfl rfl rfl rfl rfl rfl ?_; refine L_fld (Rd.own m1) (ty rfl) rfl ?_; refine S_gq rfl rfl rfl rfl rfl rfl (Q_move rfl rfl) ?_; refine S_gq rfl rfl rfl rfl rfl rfl (Q_cmp rfl rfl rfl rfl) ?_; refine S_q rfl rfl rfl (Q_pick_t rfl rfl rfl) ?_; refine Sm rfl ?_; refine On ?_; refine WP_ret ?_)); rotate_left 1; (focus (refine Sn rfl ?_; refine Sn rfl ?_; refine Sn rfl ?_; refine Sn rfl ?_; refine S_q rfl rfl rfl (Q_pick_f rfl rfl rfl) ?_; refine Sm rfl ?_; refine On ?_; refine WP_ret ?_)); rotate_left 1)); rotate_left 2)); rotate_left 2; (focus (refine Sn rfl ?_; refine Sn rfl ?_; refine Sn rfl ?_; refine Sn rfl ?_; refine Sn rfl ?_; refine S_q rfl rfl rfl (Q_pick_f rfl rfl rfl) ?_; refine On ?_; refine cond_f rfl ?_; refine WP_skip ?_; refine then_n ?_; refine Wr ?_; refine Sm rfl ?_; refine Sm rfl ?_; refine S_gsplit rfl rfl rfl rfl (fun c1_9 => ?_) (fun c1_9 => ?_) <;> (try simp at c1_9); (focus (refine S_gq rfl rfl rfl rfl rfl rfl (Q_fieldAddr rfl rfl (fld rfl rfl)) ?_; refine S_gload rfl rfl rfl rfl rfl rfl rfl rfl ?_; refine L_fld (Rd.own m1) (ty rfl) rfl ?_; refine S_gq rfl rfl rfl rfl rfl rfl (Q_move rfl rfl) ?_; refine S_gq rfl rfl rfl rfl rfl rfl (Q_cmp rfl rfl rfl rfl) ?_; refine S_q rfl rfl rfl (Q_pick_t rfl rfl rfl) ?_; refine Sm rfl ?_; refine On ?_; refine WP_ret ?_)); rotate_left 1; (focus (refine Sn rfl ?_; refine Sn rfl ?_; refine Sn rfl ?_; refine Sn rfl ?_; refine S_q rfl rfl rfl (Q_pick_f rfl rfl rfl) ?_; refine Sm rfl ?_; refine On ?_; refine WP_ret ?_)); rotate_left 1)); rotate_left 2))
    all_goals refine pret (.inl rfl) rfl ⟨_, _, rfl, rfl, rfl⟩ ?_
    all_goals (rw [hfl]; clear hfl hf; simp [resOf, *])
theorem scion1_s {h : Frag} {e : ScionE} {us : List Value} {b1 b2 : Nat} {cl nu : Int} (h1 : At h b1 0 [.int .i64 cl]) (h2 : At h b2 0 [.int .u64 nu]) (he : ScionC h e us) : PSpec Tryz.prog 104 ([Value.agg us.toArray] ++ [ptr b1 0, ptr b2 0]).toArray h (fun _ v => v = .bool (decide (e.client = cl) && decide (e.number = nu))) := by
  obtain ⟨xa, xb, xc, xd, xe, xf, xg, xh, rfl⟩ := he
  refine pspec_of (vs := [.agg _, ptr b1 0, ptr b2 0]) Tryz.func104 Tryz.ntmps104 rfl rfl ?_
  (focus (refine Wr ?_; refine S_c rfl rfl rfl (C_box rfl rfl ?_); intro b0_1; refine Sm rfl ?_; refine On ?_; refine Wr ?_; refine Sf rfl rfl rfl rfl rfl (fld rfl rfl) ?_; refine S_load rfl rfl rfl rfl rfl ?_; refine L_fld (Rd.own m0) (ty rfl) rfl ?_; refine S_load rfl rfl rfl rfl rfl ?_; refine L_one (Rd.pers ‹_›) (ty rfl) ?_; refine Sc rfl rfl rfl rfl rfl rfl rfl ?_; refine Sm rfl ?_; refine S_gsplit rfl rfl rfl rfl (fun c0_2 => ?_) (fun c0_2 => ?_) <;> (try simp at c0_2); (focus (refine S_gq rfl rfl rfl rfl rfl rfl (Q_fieldAddr rfl rfl (fld rfl rfl)) ?_; refine S_gload rfl rfl rfl rfl rfl rfl rfl rfl ?_; refine L_fld (Rd.own m0) (ty rfl) rfl ?_; refine S_gload rfl rfl rfl rfl rfl rfl rfl rfl ?_; refine L_one (Rd.pers ‹_›) (ty rfl) ?_; refine S_gq rfl rfl rfl rfl rfl rfl (Q_cmp rfl rfl rfl rfl) ?_; refine S_q rfl rfl rfl (Q_pick_t rfl rfl rfl) ?_; refine Sm rfl ?_; refine On ?_; refine WP_ret ?_)); rotate_left 1; (focus (refine Sn rfl ?_; refine Sn rfl ?_; refine Sn rfl ?_; refine Sn rfl ?_; refine S_q rfl rfl rfl (Q_pick_f rfl rfl rfl) ?_; refine Sm rfl ?_; refine On ?_; refine WP_ret ?_)); rotate_left 1))
  all_goals refine pret (.inl rfl) rfl ⟨_, _, rfl, rfl, rfl⟩ ?_
  all_goals (simp_all [resOf]; try rfl)
def zeroS : ScionE := ⟨0, 0, (0, 0)⟩
theorem scion_s {h : Frag} {cs : List Value} {vs : List View} {m cl nu : Int} (hf : FleetC h vs cs) : PSpec Tryz.prog 60 #[.agg cs.toArray, .int .i64 m, .int .i64 cl, .int .u64 nu] h
    (fun _ v => ∃ us, v = .tuple #[.agg us.toArray, .bool (scionOf vs m cl nu).isSome] ∧ us.length = 12 ∧ ones us = true ∧ ScionC h ((scionOf vs m cl nu).getD zeroS) us) := by
  obtain ⟨p, c, mb, ps, rfl, fv, fm, fq⟩ := hf
  have hf : FleetC h vs [.slice p vs.length c, .map (some mb)] := ⟨p, c, mb, ps, rfl, fv, fm, fq⟩
  clear fq fm fv
  refine pspec_of (vs := [.agg [Value.slice p vs.length c, .map (some mb)].toArray, .int .i64 m, .int .i64 cl, .int .u64 nu]) Tryz.func60 Tryz.ntmps60 rfl rfl ?_
  (focus (refine Wr ?_; refine S_c rfl rfl rfl (C_box rfl rfl ?_); intro b0_1; refine S_c rfl rfl rfl (C_box1 rfl rfl rfl ?_); intro b0_2; refine S_c rfl rfl rfl (C_box1 rfl rfl rfl ?_); intro b0_3; refine S_c rfl rfl rfl (C_alloc rfl (zer rfl) ?_); intro b0_4; refine Sm rfl ?_; refine On ?_; refine Wr ?_; refine S_load rfl rfl rfl rfl rfl ?_; refine L_agg (Rd.own m3) (ty rfl) (by first | rfl | assumption) ?_; refine Sm rfl ?_; refine S_c rfl rfl rfl (C_call0 (view_s ‹_›) rfl rfl ⟨_, _, rfl, ⟨_, _, rfl, rfl, rfl⟩, rfl⟩ (cal rfl) ?_); rintro _ ⟨cv0_5, rfl, cl0_5, co0_5, ⟨xi0_5, xa0_5, po0_5, qo0_5, ps0_5, qs0_5, pc0_5, qc0_5, pn0_5, qn0_5, pm0_5, qm0_5, xw0_5, xv0_5, pf0_5, qf0_5, pr0_5, qr0_5, xe0_5, xf0_5, rfl, vo0_5, vs0_5, vc0_5, vn0_5, vm0_5, vf0_5, vr0_5⟩⟩; refine Sm rfl ?_; refine S_q rfl rfl rfl (Q_extract rfl rfl rfl) ?_; refine S_q rfl rfl rfl (Q_extract rfl rfl rfl) ?_; refine S_c rfl rfl rfl (C_alloc rfl (zer rfl) ?_); intro b0_6; refine S_w0 rfl rfl (W_all rfl rfl rfl (ty rfl) u0 (by first | rfl | assumption) (by first | rfl | assumption) (by first | rfl | assumption | exact ones_sub ‹_› _ _) ?_); refine Sm rfl ?_; refine On ?_; refine Wr ?_; refine Sf rfl rfl rfl rfl rfl (fld rfl rfl) ?_; refine S_load rfl rfl rfl rfl rfl ?_; refine L_fld (Rd.own m0) (ty rfl) rfl ?_; refine S_q rfl rfl rfl (Q_makeFunc rfl rfl ⟨_, _, rfl, ⟨_, _, rfl, rfl, rfl⟩, rfl⟩) ?_))
  (focus (refine OPS_keepM [_, _] [_] _ rfl ?_; rintro h1_k l1_k k1_k; have a1_k := at_of_keep k1_k; clear k1_k; replace hf := hf.up l1_k; replace vo0_5 := vo0_5.up l1_k; replace vs0_5 := vs0_5.up l1_k; replace vc0_5 := vc0_5.up l1_k; replace vn0_5 := vn0_5.up l1_k; replace vm0_5 := vm0_5.up l1_k; replace vf0_5 := vf0_5.up l1_k; replace vr0_5 := vr0_5.up l1_k))
  (focus (refine OPS_keepM [_, _] [_] _ rfl ?_; rintro h2_k l2_k k2_k; have a2_k := at_of_keep k2_k; clear k2_k; replace a1_k := a1_k.up l2_k; replace hf := hf.up l2_k; replace vo0_5 := vo0_5.up l2_k; replace vs0_5 := vs0_5.up l2_k; replace vc0_5 := vc0_5.up l2_k; replace vn0_5 := vn0_5.up l2_k; replace vm0_5 := vm0_5.up l2_k; replace vf0_5 := vf0_5.up l2_k; replace vr0_5 := vr0_5.up l2_k))
  refine S_c rfl rfl rfl (C_callv (idxScion_s (cap := [ptr b0_2 0, ptr b0_3 0]) vc0_5 (cal rfl) (fun x us _ _ hx => scion1_s a2_k a1_k hx)) rfl rfl ⟨_, _, rfl, ⟨_, _, rfl, rfl, rfl⟩, rfl⟩ (cal rfl) ?_)
  cases hi : (vwAt vs m).scions.findIdx? (fun e => decide (e.client = cl) && decide (e.number = nu)) with
  | none =>
    simp only [idxI]
    have hx' : scionOf vs m cl nu = none := by rw [scionOf]; exact findIdx_none hi
    (focus (refine Sm rfl ?_; refine On ?_; refine WP_seq ?_; refine Wr ?_; refine Sm rfl ?_; refine Sc rfl rfl rfl rfl rfl rfl rfl ?_; refine On ?_; refine cond_t rfl ?_; refine Wr ?_; refine S_q rfl rfl rfl (Q_build rfl (by decide +kernel) (zer rfl) rfl rfl) ?_; refine S_w0 rfl rfl (W_all rfl rfl rfl (ty rfl) u1 (by first | rfl | assumption) (by first | rfl | assumption) (by first | rfl | assumption | exact ones_sub ‹_› _ _) ?_); refine Sm rfl ?_; refine On ?_; refine WP_ret ?_; refine then_r ?_))
    refine pret (.inl rfl) rfl ⟨_, _, _, rfl, Loads_agg (Rd.own m1) (ty rfl) rfl, ⟨_, _, rfl, rfl, rfl⟩, rfl⟩ ?_
    rw [hx', Option.getD_none, zeroS]
    exact ⟨_, rfl, rfl, rfl, _, _, _, _, _, _, _, _, rfl⟩
  | some k =>
    simp only [idxI]
    obtain ⟨x, ex, hx⟩ := findIdx_find hi
    have hx' : scionOf vs m cl nu = some x := by rw [scionOf]; exact hx
    (focus (refine Sm rfl ?_; refine On ?_; refine WP_seq ?_; refine Wr ?_; refine Sm rfl ?_; refine Sc rfl rfl rfl rfl rfl rfl rfl ?_; refine On ?_; refine cond_f rfl ?_; refine WP_skip ?_; refine then_n ?_; refine Wr ?_; refine Sf rfl rfl rfl rfl rfl (fld rfl rfl) ?_; refine S_load rfl rfl rfl rfl rfl ?_; refine L_fld (Rd.own m0) (ty rfl) rfl ?_; refine Sm rfl ?_; refine S_q rfl rfl rfl (Q_indexS ‹_› ‹_› rfl rfl rfl (elm rfl) rfl) ?_; refine S_load rfl rfl rfl rfl rfl ?_; refine L_elA ‹_› ‹_› (ty rfl) ?_; rintro _ _ _ ⟨xa4_1, xb4_1, xc4_1, xd4_1, xe4_1, xf4_1, xg4_1, xh4_1, rfl⟩; refine S_w0 rfl rfl (W_all rfl rfl rfl (ty rfl) u1 (by first | rfl | assumption) (by first | rfl | assumption) (by first | rfl | assumption | exact ones_sub ‹_› _ _) ?_); refine Sm rfl ?_; refine On ?_; refine WP_ret ?_))
    refine pret (.inl rfl) rfl ⟨_, _, _, rfl, Loads_agg (Rd.own m1) (ty rfl) rfl, ⟨_, _, rfl, rfl, rfl⟩, rfl⟩ ?_
    rw [hx', Option.getD_some]
    exact ⟨_, rfl, rfl, by assumption, _, _, _, _, _, _, _, _, rfl⟩
theorem numbered1_s {h : Frag} {x : Flight} {ws cs us : List Value} {vs : List View} {v : View} {b1 b2 b3 b4 : Nat} {to nu : Int} (h1 : At h b1 0 [.int .i64 to]) (h2 : At h b2 0 [.int .u64 nu]) (h3 : At h b3 0 cs) (h4 : At h b4 0 us) (lc : cs.length = 2) (lu : us.length = 13)
    (hf : FleetC h vs cs) (hv : ViewC 4398046511104 h v us) (hx : FlightC 4398046511104 h x ws) (hw : ones ws = true) : PSpec Tryz.prog 87 ([Value.agg ws.toArray] ++ [ptr b1 0, ptr b2 0, ptr b3 0, ptr b4 0]).toArray h
      (fun _ u => u = .bool (decide (x.to = to) && (decide (x.msg.kind = 1) && (decide (x.msg.parcel.number = nu) && flyB vs v x)))) := by
  have hx' := hx
  obtain ⟨ya, yb, yc, yd, ye, pa, qa, pg, qg, ph, qh, yw, y1, y2, y3, y4, y5, y6, y7, y8, y9, y10, y11, y12, y13, y14, y15, rfl, -⟩ := hx
  refine pspec_of (vs := [.agg _, ptr b1 0, ptr b2 0, ptr b3 0, ptr b4 0]) Tryz.func87 Tryz.ntmps87 rfl rfl ?_
  (focus (refine Wr ?_; refine S_c rfl rfl rfl (C_box rfl rfl ?_); intro b0_1; refine Sm rfl ?_; refine On ?_; refine Wr ?_; refine Sf rfl rfl rfl rfl rfl (fld rfl rfl) ?_; refine S_load rfl rfl rfl rfl rfl ?_; refine L_fld (Rd.own m0) (ty rfl) rfl ?_; refine S_load rfl rfl rfl rfl rfl ?_; refine L_one (Rd.pers ‹_›) (ty rfl) ?_; refine Sc rfl rfl rfl rfl rfl rfl rfl ?_; refine Sm rfl ?_; refine S_gsplit rfl rfl rfl rfl (fun c0_2 => ?_) (fun c0_2 => ?_) <;> (try simp at c0_2); (focus (refine S_gq rfl rfl rfl rfl rfl rfl (Q_fieldAddr rfl rfl (fld rfl rfl)) ?_; refine S_gq rfl rfl rfl rfl rfl rfl (Q_fieldAddr rfl rfl (fld rfl rfl)) ?_; refine S_gload rfl rfl rfl rfl rfl rfl rfl rfl ?_; refine L_fld2 (Rd.own m0) ?_; refine LV_1 (ty rfl) rfl ?_; refine S_gq rfl rfl rfl rfl rfl rfl (Q_cmp rfl rfl rfl rfl) ?_; refine S_q rfl rfl rfl (Q_pick_t rfl rfl rfl) ?_; refine Sm rfl ?_; refine S_gsplit rfl rfl rfl rfl (fun c0_3 => ?_) (fun c0_3 => ?_) <;> (try simp at c0_3); (focus (refine S_gq rfl rfl rfl rfl rfl rfl (Q_fieldAddr rfl rfl (fld rfl rfl)) ?_; refine S_gq rfl rfl rfl rfl rfl rfl (Q_fieldAddr rfl rfl (fld rfl rfl)) ?_; refine S_gq rfl rfl rfl rfl rfl rfl (Q_fieldAddr rfl rfl (fld rfl rfl)) ?_; refine S_gload rfl rfl rfl rfl rfl rfl rfl rfl ?_; refine L_fld3 (Rd.own m0) ?_; refine LV_1 (ty rfl) rfl ?_; refine S_gload rfl rfl rfl rfl rfl rfl rfl rfl ?_; refine L_one (Rd.pers ‹_›) (ty rfl) ?_; refine S_gq rfl rfl rfl rfl rfl rfl (Q_cmp rfl rfl rfl rfl) ?_; refine S_q rfl rfl rfl (Q_pick_t rfl rfl rfl) ?_; refine Sm rfl ?_; refine S_gsplit rfl rfl rfl rfl (fun c0_4 => ?_) (fun c0_4 => ?_) <;> (try simp at c0_4); (focus (refine S_gload rfl rfl rfl rfl rfl rfl rfl rfl ?_; refine L_agg (Rd.pers ‹_›) (ty rfl) (by first | rfl | assumption) ?_; refine S_gload rfl rfl rfl rfl rfl rfl rfl rfl ?_; refine L_agg (Rd.pers ‹_›) (ty rfl) (by first | rfl | assumption) ?_; refine S_gload rfl rfl rfl rfl rfl rfl rfl rfl ?_; refine L_agg (Rd.own m0) (ty rfl) (by first | rfl | assumption) ?_; refine S_gc rfl rfl rfl rfl rfl rfl (C_callv (flying_s ‹_› ‹_› ‹_›) rfl rfl ⟨_, _, rfl, ⟨_, _, rfl, ⟨_, _, rfl, rfl, rfl⟩, rfl⟩, rfl⟩ (cal rfl) ?_); refine S_q rfl rfl rfl (Q_pick_t rfl rfl rfl) ?_; refine Sm rfl ?_; refine On ?_; refine WP_ret ?_)); rotate_left 1; (focus (refine Sn rfl ?_; refine Sn rfl ?_; refine Sn rfl ?_; refine Sn rfl ?_; refine S_q rfl rfl rfl (Q_pick_f rfl rfl rfl) ?_; refine Sm rfl ?_; refine On ?_; refine WP_ret ?_)); rotate_left 1)); rotate_left 2; (focus (refine Sn rfl ?_; refine Sn rfl ?_; refine Sn rfl ?_; refine Sn rfl ?_; refine Sn rfl ?_; refine Sn rfl ?_; refine S_q rfl rfl rfl (Q_pick_f rfl rfl rfl) ?_; refine Sm rfl ?_; refine Sn rfl ?_; refine Sn rfl ?_; refine Sn rfl ?_; refine Sn rfl ?_; refine S_q rfl rfl rfl (Q_pick_f rfl rfl rfl) ?_; refine Sm rfl ?_; refine On ?_; refine WP_ret ?_)); rotate_left 1)); rotate_left 3; (focus (refine Sn rfl ?_; refine Sn rfl ?_; refine Sn rfl ?_; refine Sn rfl ?_; refine S_q rfl rfl rfl (Q_pick_f rfl rfl rfl) ?_; refine Sm rfl ?_; refine Sn rfl ?_; refine Sn rfl ?_; refine Sn rfl ?_; refine Sn rfl ?_; refine Sn rfl ?_; refine Sn rfl ?_; refine S_q rfl rfl rfl (Q_pick_f rfl rfl rfl) ?_; refine Sm rfl ?_; refine Sn rfl ?_; refine Sn rfl ?_; refine Sn rfl ?_; refine Sn rfl ?_; refine S_q rfl rfl rfl (Q_pick_f rfl rfl rfl) ?_; refine Sm rfl ?_; refine On ?_; refine WP_ret ?_)); rotate_left 1))
  all_goals refine pret (.inl rfl) rfl ⟨_, _, rfl, rfl, rfl⟩ ?_
  all_goals (simp_all [resOf]; try rfl)
theorem numbered_s {h : Frag} {cs : List Value} {vs : List View} {frm to nu : Int} (hf : FleetC h vs cs) : PSpec Tryz.prog 40 #[.agg cs.toArray, .int .i64 frm, .int .i64 to, .int .u64 nu] h
    (fun _ v => v = .agg (idc (numberedOf vs frm to nu)).toArray) := by
  obtain ⟨p, c, mb, ps, rfl, fv, fm, fq⟩ := hf
  have hf : FleetC h vs [.slice p vs.length c, .map (some mb)] := ⟨p, c, mb, ps, rfl, fv, fm, fq⟩
  clear fq fm fv
  refine pspec_of (vs := [.agg [Value.slice p vs.length c, .map (some mb)].toArray, .int .i64 frm, .int .i64 to, .int .u64 nu]) Tryz.func40 Tryz.ntmps40 rfl rfl ?_
  (focus (refine Wr ?_; refine S_c rfl rfl rfl (C_box rfl rfl ?_); intro b0_1; refine S_c rfl rfl rfl (C_box1 rfl rfl rfl ?_); intro b0_2; refine S_c rfl rfl rfl (C_box1 rfl rfl rfl ?_); intro b0_3; refine S_c rfl rfl rfl (C_alloc rfl (zer rfl) ?_); intro b0_4; refine On ?_; refine WP_seq ?_; refine Wr ?_; refine S_load rfl rfl rfl rfl rfl ?_; refine L_agg (Rd.own m3) (ty rfl) (by first | rfl | assumption) ?_; refine S_load rfl rfl rfl rfl rfl ?_; refine L_one (Rd.own m2) (ty rfl) ?_; refine Sm rfl ?_; refine S_load rfl rfl rfl rfl rfl ?_; refine L_one (Rd.own m1) (ty rfl) ?_; refine S_c rfl rfl rfl (C_call0 (scion_s ‹_›) rfl rfl ⟨_, _, rfl, ⟨_, _, rfl, ⟨_, _, rfl, ⟨_, _, rfl, rfl, rfl⟩, rfl⟩, rfl⟩, rfl⟩ (cal rfl) ?_); rintro _ ⟨cv0_5, rfl, cl0_5, co0_5, ⟨xa0_5, xb0_5, xc0_5, xd0_5, xe0_5, xf0_5, xg0_5, xh0_5, rfl⟩⟩; refine Sm rfl ?_; refine S_q rfl rfl rfl (Q_extract rfl rfl rfl) ?_; refine S_q rfl rfl rfl (Q_extract rfl rfl rfl) ?_; refine S_c rfl rfl rfl (C_alloc rfl (zer rfl) ?_); intro b0_6; refine S_w0 rfl rfl (W_all rfl rfl rfl (ty rfl) u0 (by first | rfl | assumption) (by first | rfl | assumption) (by first | rfl | assumption | exact ones_sub ‹_› _ _) ?_); refine Sm rfl ?_; refine On ?_; refine Wr ?_; refine Sm rfl ?_; refine On ?_; refine WP_cond rfl (fun c0_7 => ?_) (fun c0_7 => ?_) <;> (try simp at c0_7); (focus (refine Wr ?_; refine Sf rfl rfl rfl rfl rfl (fld rfl rfl) ?_; refine S_load rfl rfl rfl rfl rfl ?_; refine L_sub (Rd.own m0) (ty rfl) rfl ?_; refine S_w0 rfl rfl (W_all rfl rfl rfl (ty rfl) u1 (by first | rfl | assumption) (by first | rfl | assumption) (by first | rfl | assumption | exact ones_sub ‹_› _ _) ?_); refine On ?_; refine WP_ret ?_; refine then_r ?_)); rotate_left 1; (focus (refine WP_skip ?_; refine then_n ?_; refine Wr ?_; refine S_load rfl rfl rfl rfl rfl ?_; refine L_agg (Rd.own m4) (ty rfl) (by first | rfl | assumption) ?_; refine Sm rfl ?_; refine S_c rfl rfl rfl (C_call0 (view_s ‹_›) rfl rfl ⟨_, _, rfl, ⟨_, _, rfl, rfl, rfl⟩, rfl⟩ (cal rfl) ?_); rintro _ ⟨cv0_8, rfl, cl0_8, co0_8, ⟨xi0_8, xa0_8, po0_8, qo0_8, ps0_8, qs0_8, pc0_8, qc0_8, pn0_8, qn0_8, pm0_8, qm0_8, xw0_8, xv0_8, pf0_8, qf0_8, pr0_8, qr0_8, xe0_8, xf0_8, rfl, vo0_8, vs0_8, vc0_8, vn0_8, vm0_8, vf0_8, vr0_8⟩⟩; refine Sm rfl ?_; refine S_q rfl rfl rfl (Q_extract rfl rfl rfl) ?_; refine S_q rfl rfl rfl (Q_extract rfl rfl rfl) ?_; refine S_c rfl rfl rfl (C_alloc rfl (zer rfl) ?_); intro b0_9; refine S_w0 rfl rfl (W_all rfl rfl rfl (ty rfl) u0 (by first | rfl | assumption) (by first | rfl | assumption) (by first | rfl | assumption | exact ones_sub ‹_› _ _) ?_); refine Sm rfl ?_; refine On ?_; refine Wr ?_; refine Sf rfl rfl rfl rfl rfl (fld rfl rfl) ?_; refine S_load rfl rfl rfl rfl rfl ?_; refine L_fld (Rd.own m0) (ty rfl) rfl ?_; refine S_q rfl rfl rfl (Q_makeFunc rfl rfl ⟨_, _, rfl, ⟨_, _, rfl, ⟨_, _, rfl, ⟨_, _, rfl, rfl, rfl⟩, rfl⟩, rfl⟩, rfl⟩) ?_)); rotate_left 1))
  · obtain ⟨e, he⟩ := Option.isSome_iff_exists.1 c0_7
    refine pret (.inl rfl) rfl ⟨_, _, _, rfl, Loads_agg (Rd.own m1) (ty rfl) rfl, rfl, rfl⟩ ?_
    rw [numberedOf, he]; rfl
  (focus (refine OPS_keepM [] [_] _ rfl ?_; rintro h1_k l1_k k1_k; have a1_k := at_of_keep k1_k; clear k1_k; replace hf := hf.up l1_k; replace vo0_8 := vo0_8.up l1_k; replace vs0_8 := vs0_8.up l1_k; replace vc0_8 := vc0_8.up l1_k; replace vn0_8 := vn0_8.up l1_k; replace vm0_8 := vm0_8.up l1_k; replace vf0_8 := vf0_8.up l1_k; replace vr0_8 := vr0_8.up l1_k))
  (focus (refine OPS_keepM [_, _] [_] _ rfl ?_; rintro h2_k l2_k k2_k; have a2_k := at_of_keep k2_k; clear k2_k; replace a1_k := a1_k.up l2_k; replace hf := hf.up l2_k; replace vo0_8 := vo0_8.up l2_k; replace vs0_8 := vs0_8.up l2_k; replace vc0_8 := vc0_8.up l2_k; replace vn0_8 := vn0_8.up l2_k; replace vm0_8 := vm0_8.up l2_k; replace vf0_8 := vf0_8.up l2_k; replace vr0_8 := vr0_8.up l2_k))
  (focus (refine OPS_keepM [_, _] [_] _ rfl ?_; rintro h3_k l3_k k3_k; have a3_k := at_of_keep k3_k; clear k3_k; replace a2_k := a2_k.up l3_k; replace a1_k := a1_k.up l3_k; replace hf := hf.up l3_k; replace vo0_8 := vo0_8.up l3_k; replace vs0_8 := vs0_8.up l3_k; replace vc0_8 := vc0_8.up l3_k; replace vn0_8 := vn0_8.up l3_k; replace vm0_8 := vm0_8.up l3_k; replace vf0_8 := vf0_8.up l3_k; replace vr0_8 := vr0_8.up l3_k))
  (focus (refine OPS_keepM [_, _] [_] _ rfl ?_; rintro h4_k l4_k k4_k; have a4_k := at_of_keep k4_k; clear k4_k; replace a3_k := a3_k.up l4_k; replace a2_k := a2_k.up l4_k; replace a1_k := a1_k.up l4_k; replace hf := hf.up l4_k; replace vo0_8 := vo0_8.up l4_k; replace vs0_8 := vs0_8.up l4_k; replace vc0_8 := vc0_8.up l4_k; replace vn0_8 := vn0_8.up l4_k; replace vm0_8 := vm0_8.up l4_k; replace vf0_8 := vf0_8.up l4_k; replace vr0_8 := vr0_8.up l4_k))
  refine S_c rfl rfl rfl (C_callv (idxFlight_s (cap := [ptr b0_2 0, ptr b0_3 0, ptr b0_1 0, ptr b0_9 0]) vf0_8 (cal rfl) (fun x ws _ hw hx => numbered1_s a3_k a2_k a4_k a1_k rfl rfl hf ⟨xi0_8, _, _, _, _, _, _, _, _, _, _, _, _, _, _, _, _, _, _, _, rfl, vo0_8, vs0_8, vc0_8, vn0_8, vm0_8, vf0_8, vr0_8⟩ hx hw)) rfl rfl ⟨_, _, rfl, ⟨_, _, rfl, rfl, rfl⟩, rfl⟩ (cal rfl) ?_)
  cases hi : (vwAt vs frm).flights.findIdx? (fun x => decide (x.to = to) && (decide (x.msg.kind = 1) && (decide (x.msg.parcel.number = nu) && flyB vs (vwAt vs frm) x))) with
  | none =>
    simp only [idxI]
    have hx' : moveOf vs frm to nu = none := by rw [moveOf]; exact findIdx_none hi
    (focus (refine Sm rfl ?_; refine On ?_; refine WP_seq ?_; refine Wr ?_; refine Sm rfl ?_; refine Sc rfl rfl rfl rfl rfl rfl rfl ?_; refine On ?_; refine cond_t rfl ?_; refine Wr ?_; refine S_q rfl rfl rfl (Q_build rfl (by decide +kernel) (zer rfl) rfl rfl) ?_; refine S_w0 rfl rfl (W_all rfl rfl rfl (ty rfl) u1 (by first | rfl | assumption) (by first | rfl | assumption) (by first | rfl | assumption | exact ones_sub ‹_› _ _) ?_); refine On ?_; refine WP_ret ?_; refine then_r ?_))
    refine pret (.inl rfl) rfl ⟨_, _, _, rfl, Loads_agg (Rd.own m1) (ty rfl) rfl, rfl, rfl⟩ ?_
    rw [numberedOf, c0_7]; simp only [hx']; rfl
  | some k =>
    simp only [idxI]
    obtain ⟨x, ex, hx⟩ := findIdx_find hi
    have hx' : moveOf vs frm to nu = some x := by rw [moveOf]; exact hx
    (focus (refine Sm rfl ?_; refine On ?_; refine WP_seq ?_; refine Wr ?_; refine Sm rfl ?_; refine Sc rfl rfl rfl rfl rfl rfl rfl ?_; refine On ?_; refine cond_f rfl ?_; refine WP_skip ?_; refine then_n ?_; refine Wr ?_; refine Sf rfl rfl rfl rfl rfl (fld rfl rfl) ?_; refine S_load rfl rfl rfl rfl rfl ?_; refine L_fld (Rd.pers ‹_›) (ty rfl) rfl ?_; refine Sm rfl ?_; refine S_q rfl rfl rfl (Q_indexS ‹_› ‹_› rfl rfl rfl (elm rfl) rfl) ?_; refine Sf rfl rfl rfl rfl rfl (fld rfl rfl) ?_; refine Sf rfl rfl rfl rfl rfl (fld rfl rfl) ?_; refine Sf rfl rfl rfl rfl rfl (fld rfl rfl) ?_; refine S_load rfl rfl rfl rfl rfl ?_; refine L_elF3 ‹_› ‹_› ?_; rintro _ _ _ ⟨xa6_1, xb6_1, xc6_1, xd6_1, xe6_1, pa6_1, qa6_1, pf6_1, qf6_1, pm6_1, qm6_1, xw6_1, y16_1, y26_1, y36_1, y46_1, y56_1, y66_1, y76_1, y86_1, y96_1, y106_1, y116_1, y126_1, y136_1, y146_1, y156_1, rfl, ha6_1, hf6_1, hm6_1⟩; refine LV_a (ty rfl) rfl ?_; refine S_w0 rfl rfl (W_all rfl rfl rfl (ty rfl) u1 (by first | rfl | assumption) (by first | rfl | assumption) (by first | rfl | assumption | exact ones_sub ‹_› _ _) ?_); refine On ?_; refine WP_ret ?_))
    refine pret (.inl rfl) rfl ⟨_, _, _, rfl, Loads_agg (Rd.own m1) (ty rfl) rfl, rfl, rfl⟩ ?_
    rw [numberedOf, c0_7]; simp only [hx']; rfl
theorem id_s {h : Frag} {cs : List Value} {vs : List View} {frm to : Int} {r : Ref} (hf : FleetC h vs cs) : PSpec Tryz.prog 39 #[.agg cs.toArray, .int .i64 frm, .int .i64 to, .agg (rfc r).toArray] h (fun _ v => v = .agg (idc (idOf vs frm to r)).toArray) := by
  obtain ⟨p, c, mb, ps, rfl, fv, fm, fq⟩ := hf
  have hf : FleetC h vs [.slice p vs.length c, .map (some mb)] := ⟨p, c, mb, ps, rfl, fv, fm, fq⟩
  clear fq fm fv
  refine pspec_of (vs := [.agg [Value.slice p vs.length c, .map (some mb)].toArray, .int .i64 frm, .int .i64 to, .agg (rfc r).toArray]) Tryz.func39 Tryz.ntmps39 rfl rfl ?_
  (focus (refine Wr ?_; refine S_c rfl rfl rfl (C_box rfl rfl ?_); intro b0_1; refine S_c rfl rfl rfl (C_box rfl rfl ?_); intro b0_2; refine S_c rfl rfl rfl (C_alloc rfl (zer rfl) ?_); intro b0_3; refine On ?_; refine WP_seq ?_; refine Wr ?_; refine Sf rfl rfl rfl rfl rfl (fld rfl rfl) ?_; refine S_load rfl rfl rfl rfl rfl ?_; refine L_fld (Rd.own m1) (ty rfl) rfl ?_; refine On ?_; refine WP_block ?_; refine Wr ?_; refine Sc rfl rfl rfl rfl rfl rfl rfl ?_; refine Sm rfl ?_; refine On ?_; refine WP_cond rfl (fun c0_4 => ?_) (fun c0_4 => ?_) <;> (try simp at c0_4); (focus (refine Wr ?_; refine Sf rfl rfl rfl rfl rfl (fld rfl rfl) ?_; refine S_load rfl rfl rfl rfl rfl ?_; refine L_sub (Rd.own m1) (ty rfl) rfl ?_; refine S_w0 rfl rfl (W_all rfl rfl rfl (ty rfl) u0 (by first | rfl | assumption) (by first | rfl | assumption) (by first | rfl | assumption | exact ones_sub ‹_› _ _) ?_); refine On ?_; refine WP_ret ?_; refine block_r ?_; refine then_r ?_)); rotate_left 1; (focus (refine Wr ?_; refine Sc rfl rfl rfl rfl rfl rfl rfl ?_; refine Sm rfl ?_; refine On ?_; refine WP_cond rfl (fun c0_5 => ?_) (fun c0_5 => ?_) <;> (try simp at c0_5); (focus (refine Wr ?_; refine S_load rfl rfl rfl rfl rfl ?_; refine L_agg (Rd.own m2) (ty rfl) (by first | rfl | assumption) ?_; refine Sm rfl ?_; refine Sm rfl ?_; refine Sf rfl rfl rfl rfl rfl (fld rfl rfl) ?_; refine S_load rfl rfl rfl rfl rfl ?_; refine L_fld (Rd.own m1) (ty rfl) rfl ?_; refine S_c rfl rfl rfl (C_callv (numbered_s ‹_›) rfl rfl ⟨_, _, rfl, ⟨_, _, rfl, ⟨_, _, rfl, ⟨_, _, rfl, rfl, rfl⟩, rfl⟩, rfl⟩, rfl⟩ (cal rfl) ?_); refine S_w0 rfl rfl (W_all rfl rfl rfl (ty rfl) u0 (by first | rfl | assumption) (by first | rfl | assumption) (by first | rfl | assumption | exact ones_sub ‹_› _ _) ?_); refine On ?_; refine WP_ret ?_; refine block_r ?_; refine then_r ?_)); rotate_left 1; (focus (refine WP_skip ?_; refine block_n ?_; refine then_n ?_; refine Wr ?_; refine S_q rfl rfl rfl (Q_build rfl (by decide +kernel) (zer rfl) rfl rfl) ?_; refine S_w0 rfl rfl (W_all rfl rfl rfl (ty rfl) u0 (by first | rfl | assumption) (by first | rfl | assumption) (by first | rfl | assumption | exact ones_sub ‹_› _ _) ?_); refine On ?_; refine WP_ret ?_)); rotate_left 1)); rotate_left 2))
  all_goals refine pret (.inl rfl) rfl ⟨_, _, _, rfl, Loads_agg (Rd.own m0) (ty rfl) rfl, rfl, rfl⟩ ?_
  all_goals (simp [resOf, idOf, *]; try rfl)
theorem value_s {h : Frag} {cs : List Value} {vs : List View} {frm to : Int} {r : Ref} (hf : FleetC h vs cs) : PSpec Tryz.prog 35 #[.agg cs.toArray, .int .i64 frm, .int .i64 to, .agg (rfc r).toArray] h (fun _ v => v = .agg (vlc (valueOf vs frm to r)).toArray) := by
  obtain ⟨p, c, mb, ps, rfl, fv, fm, fq⟩ := hf
  have hf : FleetC h vs [.slice p vs.length c, .map (some mb)] := ⟨p, c, mb, ps, rfl, fv, fm, fq⟩
  clear fq fm fv
  refine pspec_of (vs := [.agg [Value.slice p vs.length c, .map (some mb)].toArray, .int .i64 frm, .int .i64 to, .agg (rfc r).toArray]) Tryz.func35 Tryz.ntmps35 rfl rfl ?_
  (focus (refine Wr ?_; refine S_c rfl rfl rfl (C_box rfl rfl ?_); intro b0_1; refine S_c rfl rfl rfl (C_box rfl rfl ?_); intro b0_2; refine S_c rfl rfl rfl (C_alloc rfl (zer rfl) ?_); intro b0_3; refine On ?_; refine Wr ?_; refine S_load rfl rfl rfl rfl rfl ?_; refine L_agg (Rd.own m2) (ty rfl) (by first | rfl | assumption) ?_; refine Sm rfl ?_; refine Sm rfl ?_; refine S_load rfl rfl rfl rfl rfl ?_; refine L_agg (Rd.own m1) (ty rfl) (by first | rfl | assumption) ?_; refine S_c rfl rfl rfl (C_callv (id_s ‹_›) rfl rfl ⟨_, _, rfl, ⟨_, _, rfl, ⟨_, _, rfl, ⟨_, _, rfl, rfl, rfl⟩, rfl⟩, rfl⟩, rfl⟩ (cal rfl) ?_); refine S_c rfl rfl rfl (C_alloc rfl (zer rfl) ?_); intro b0_4; refine S_w0 rfl rfl (W_all rfl rfl rfl (ty rfl) u0 (by first | rfl | assumption) (by first | rfl | assumption) (by first | rfl | assumption | exact ones_sub ‹_› _ _) ?_); refine On ?_; refine WP_seq ?_; refine WP_block ?_; refine Wr ?_; refine Sf rfl rfl rfl rfl rfl (fld rfl rfl) ?_; refine S_load rfl rfl rfl rfl rfl ?_; refine L_fld (Rd.own m2) (ty rfl) rfl ?_; refine Sc rfl rfl rfl rfl rfl rfl rfl ?_; refine Sm rfl ?_; refine On ?_; refine WP_cond rfl (fun c0_5 => ?_) (fun c0_5 => ?_) <;> (try simp at c0_5); (focus (refine Wr ?_; refine Sf rfl rfl rfl rfl rfl (fld rfl rfl) ?_; refine S_load rfl rfl rfl rfl rfl ?_; refine L_fld (Rd.own m2) (ty rfl) rfl ?_; refine S_q rfl rfl rfl (Q_build rfl (by decide +kernel) (zer rfl) ⟨_, _, _, _, _, _, _, rfl, fld rfl rfl, ty rfl, rfl, rfl, ⟨_, _, _, _, _, _, _, rfl, fld rfl rfl, ty rfl, rfl, rfl, rfl, rfl⟩, rfl⟩ rfl) ?_; refine S_w0 rfl rfl (W_all rfl rfl rfl (ty rfl) u1 (by first | rfl | assumption) (by first | rfl | assumption) (by first | rfl | assumption | exact ones_sub ‹_› _ _) ?_); refine On ?_; refine WP_ret ?_; refine block_r ?_; refine then_r ?_)); rotate_left 1; (focus (refine Wr ?_; refine S_load rfl rfl rfl rfl rfl ?_; refine L_agg (Rd.own m0) (ty rfl) (by first | rfl | assumption) ?_; refine S_q rfl rfl rfl (Q_build rfl (by decide +kernel) (zer rfl) rfl rfl) ?_; refine S_q rfl rfl rfl (Q_neI eqID rfl rfl rfl rfl rfl) ?_; refine Sm rfl ?_; refine On ?_; refine WP_cond rfl (fun c0_6 => ?_) (fun c0_6 => ?_) <;> (try simp at c0_6); (focus (refine Wr ?_; refine S_load rfl rfl rfl rfl rfl ?_; refine L_agg (Rd.own m0) (ty rfl) (by first | rfl | assumption) ?_; refine S_q rfl rfl rfl (Q_build rfl (by decide +kernel) (zer rfl) ⟨_, _, _, _, _, _, _, rfl, fld rfl rfl, ty rfl, rfl, rfl, ⟨_, _, _, _, _, _, _, rfl, fld rfl rfl, ty rfl, rfl, rfl, rfl, rfl⟩, rfl⟩ rfl) ?_; refine S_w0 rfl rfl (W_all rfl rfl rfl (ty rfl) u1 (by first | rfl | assumption) (by first | rfl | assumption) (by first | rfl | assumption | exact ones_sub ‹_› _ _) ?_); refine On ?_; refine WP_ret ?_; refine block_r ?_; refine then_r ?_)); rotate_left 1; (focus (refine WP_skip ?_; refine block_n ?_; refine then_n ?_; refine Wr ?_; refine S_q rfl rfl rfl (Q_build rfl (by decide +kernel) (zer rfl) rfl rfl) ?_; refine S_w0 rfl rfl (W_all rfl rfl rfl (ty rfl) u1 (by first | rfl | assumption) (by first | rfl | assumption) (by first | rfl | assumption | exact ones_sub ‹_› _ _) ?_); refine On ?_; refine WP_ret ?_)); rotate_left 1)); rotate_left 2))
  all_goals refine pret (.inl rfl) rfl ⟨_, _, _, rfl, Loads_agg (Rd.own m1) (ty rfl) rfl, rfl, rfl⟩ ?_
  all_goals (rw [valueOf]; generalize idOf vs frm to r = i at *; obtain ⟨i1, i2⟩ := i)
  · rw [if_pos c0_5]; rfl
  · rw [if_neg c0_5, if_pos (by rintro e; cases e; simp at c0_6)]; rfl
  · obtain ⟨h1, h2⟩ := c0_6
    simp only at h1 h2
    subst h1; subst h2
    rw [if_neg c0_5, if_neg (by simp)]; rfl
end Go.Proofs.YtfhoecgiahpddaaGreat
/-
  CONTRACTS: local objects; flights that carry an object; the way to an object (Follow).
-/
set_option linter.all false
namespace Go.Proofs.YtfhoecgiahpddaaGreat
open Go.Mesh Go.RowKit
set_option maxRecDepth 100000
set_option linter.unusedVariables false
set_option maxHeartbeats 4000000
attribute [local irreducible] WP OPS ANY ANYo LG LV FSpec PSpec QOP OPc OPw thenQ blockQ roundQ roundF retQ retM Rd At SLB OS cmpI orI cmpID namedB valB nodeB kindB validG valAux idxI findG zeroV viewOf vwAt idxOf recv flyB scionOf moveOf numberedOf idOf valueOf mget mput
def localB (v : View) (id : ID) : Bool := match findG v.objects id with | some n => decide (n.kind ≠ 3) | none => false
attribute [local irreducible] localB
theorem local_s {h : Frag} {us : List Value} {v : View} {id : ID} (hv : ViewC 4398046511104 h v us) : PSpec Tryz.prog 56 #[.agg us.toArray, .agg (idc id).toArray] h (fun _ u => u = .bool (localB v id)) := by
  obtain ⟨hi, xa, po, qo, qs, qt, pc, qc, pn, qn, pm, qm, xw, xv, pf, qf, pr, qr, xe, xf, rfl, vo, -⟩ := hv
  refine pspec_of (vs := [.agg _, .agg (idc id).toArray]) Tryz.func56 Tryz.ntmps56 rfl rfl ?_
  (focus (refine Wr ?_; refine S_c rfl rfl rfl (C_box rfl rfl ?_); intro b0_1; refine S_c rfl rfl rfl (C_box rfl rfl ?_); intro b0_2; refine Sm rfl ?_; refine On ?_; refine Wr ?_; refine Sf rfl rfl rfl rfl rfl (fld rfl rfl) ?_; refine S_load rfl rfl rfl rfl rfl ?_; refine L_sub (Rd.own m1) (ty rfl) rfl ?_; refine S_load rfl rfl rfl rfl rfl ?_; refine L_agg (Rd.own m0) (ty rfl) (by first | rfl | assumption) ?_; refine S_c rfl rfl rfl (C_call (find_s ⟨_, _, rfl, by assumption⟩) rfl rfl ⟨_, _, rfl, ⟨_, _, rfl, rfl, rfl⟩, rfl⟩ (cal rfl) ?_); rintro h0_3 _ l0_3 ⟨vf0_3, rfl, pn0_3, qn0_3, rfl, fn0_3⟩; replace vo := vo.up l0_3; refine Sm rfl ?_; refine S_q rfl rfl rfl (Q_extract rfl rfl rfl) ?_; refine S_q rfl rfl rfl (Q_extract rfl rfl rfl) ?_; refine S_c rfl rfl rfl (C_alloc rfl (zer rfl) ?_); intro b0_4; refine S_w0 rfl rfl (W_all rfl rfl rfl (ty rfl) u0 (by first | rfl | assumption) (by first | rfl | assumption) (by first | rfl | assumption | exact ones_sub ‹_› _ _) ?_); refine Sm rfl ?_; refine On ?_; refine Wr ?_; refine Sm rfl ?_; refine Sm rfl ?_; refine S_gsplit rfl rfl rfl rfl (fun c0_5 => ?_) (fun c0_5 => ?_) <;> (try simp at c0_5); (focus (refine S_gq rfl rfl rfl rfl rfl rfl (Q_fieldAddr rfl rfl (fld rfl rfl)) ?_; refine S_gload rfl rfl rfl rfl rfl rfl rfl rfl ?_; refine L_fld (Rd.own m0) (ty rfl) rfl ?_; refine S_gq rfl rfl rfl rfl rfl rfl (Q_cmp rfl rfl rfl rfl) ?_; refine S_q rfl rfl rfl (Q_pick_t rfl rfl rfl) ?_; refine Sm rfl ?_; refine On ?_; refine WP_ret ?_)); rotate_left 1; (focus (refine Sn rfl ?_; refine Sn rfl ?_; refine Sn rfl ?_; refine S_q rfl rfl rfl (Q_pick_f rfl rfl rfl) ?_; refine Sm rfl ?_; refine On ?_; refine WP_ret ?_)); rotate_left 1))
  all_goals refine pret (.inl rfl) rfl ⟨_, _, rfl, rfl, rfl⟩ ?_
  all_goals (rw [localB]; cases hx : findG v.objects id <;> simp_all [resOf]; try rfl)
theorem carried1_s {h : Frag} {x : Flight} {ws cs us : List Value} {vs : List View} {v : View} {b1 b2 b3 b4 b5 : Nat} {to nu : Int} {id : ID} (h1 : At h b1 0 [.int .i64 to]) (h2 : At h b2 0 (idc id)) (h3 : At h b3 0 [.int .u64 nu]) (h4 : At h b4 0 cs) (h5 : At h b5 0 us) (lc : cs.length = 2) (lu : us.length = 13)
    (hf : FleetC h vs cs) (hv : ViewC 4398046511104 h v us) (hx : FlightC 4398046511104 h x ws) (hw : ones ws = true) : PSpec Tryz.prog 106 ([Value.agg ws.toArray] ++ [ptr b1 0, ptr b2 0, ptr b3 0, ptr b4 0, ptr b5 0]).toArray h
      (fun _ u => u = .bool (decide (x.to = to) && (decide (x.msg.kind = 1) && (decide (x.msg.parcel.id = id) && (decide (x.msg.parcel.number = nu) && flyB vs v x))))) := by
  have hx' := hx
  obtain ⟨ya, yb, yc, yd, ye, pa, qa, pg, qg, ph, qh, yw, y1, y2, y3, y4, y5, y6, y7, y8, y9, y10, y11, y12, y13, y14, y15, rfl, -⟩ := hx
  refine pspec_of (vs := [.agg _, ptr b1 0, ptr b2 0, ptr b3 0, ptr b4 0, ptr b5 0]) Tryz.func106 Tryz.ntmps106 rfl rfl ?_
  (focus (refine Wr ?_; refine S_c rfl rfl rfl (C_box rfl rfl ?_); intro b0_1; refine Sm rfl ?_; refine On ?_; refine Wr ?_; refine Sf rfl rfl rfl rfl rfl (fld rfl rfl) ?_; refine Sf rfl rfl rfl rfl rfl (fld rfl rfl) ?_; refine S_load rfl rfl rfl rfl rfl ?_; refine L_fld2 (Rd.own m0) ?_; refine LV_a (ty rfl) rfl ?_; refine S_c rfl rfl rfl (C_alloc rfl (zer rfl) ?_); intro b0_2; refine S_w0 rfl rfl (W_all rfl rfl rfl (ty rfl) u0 (by first | rfl | assumption) (by first | rfl | assumption) (by first | rfl | assumption | exact ones_sub ‹_› _ _) ?_); refine On ?_; refine Wr ?_; refine Sf rfl rfl rfl rfl rfl (fld rfl rfl) ?_; refine S_load rfl rfl rfl rfl rfl ?_; refine L_fld (Rd.own m1) (ty rfl) rfl ?_; refine S_load rfl rfl rfl rfl rfl ?_; refine L_one (Rd.pers ‹_›) (ty rfl) ?_; refine Sc rfl rfl rfl rfl rfl rfl rfl ?_; refine Sm rfl ?_; refine S_gsplit rfl rfl rfl rfl (fun c0_3 => ?_) (fun c0_3 => ?_) <;> (try simp at c0_3); (focus (refine S_gq rfl rfl rfl rfl rfl rfl (Q_fieldAddr rfl rfl (fld rfl rfl)) ?_; refine S_gq rfl rfl rfl rfl rfl rfl (Q_fieldAddr rfl rfl (fld rfl rfl)) ?_; refine S_gload rfl rfl rfl rfl rfl rfl rfl rfl ?_; refine L_fld2 (Rd.own m1) ?_; refine LV_1 (ty rfl) rfl ?_; refine S_gq rfl rfl rfl rfl rfl rfl (Q_cmp rfl rfl rfl rfl) ?_; refine S_q rfl rfl rfl (Q_pick_t rfl rfl rfl) ?_; refine Sm rfl ?_; refine S_gsplit rfl rfl rfl rfl (fun c0_4 => ?_) (fun c0_4 => ?_) <;> (try simp at c0_4); (focus (refine S_gq rfl rfl rfl rfl rfl rfl (Q_fieldAddr rfl rfl (fld rfl rfl)) ?_; refine S_gload rfl rfl rfl rfl rfl rfl rfl rfl ?_; refine L_sub (Rd.own m0) (ty rfl) rfl ?_; refine S_gload rfl rfl rfl rfl rfl rfl rfl rfl ?_; refine L_agg (Rd.pers ‹_›) (ty rfl) (by first | rfl | assumption) ?_; refine S_gq rfl rfl rfl rfl rfl rfl (Q_eqI eqID rfl rfl rfl rfl rfl) ?_; refine S_q rfl rfl rfl (Q_pick_t rfl rfl rfl) ?_; refine Sm rfl ?_; refine S_gsplit rfl rfl rfl rfl (fun c0_5 => ?_) (fun c0_5 => ?_) <;> (try simp at c0_5); (focus (refine S_gq rfl rfl rfl rfl rfl rfl (Q_fieldAddr rfl rfl (fld rfl rfl)) ?_; refine S_gload rfl rfl rfl rfl rfl rfl rfl rfl ?_; refine L_fld (Rd.own m0) (ty rfl) rfl ?_; refine S_gload rfl rfl rfl rfl rfl rfl rfl rfl ?_; refine L_one (Rd.pers ‹_›) (ty rfl) ?_; refine S_gq rfl rfl rfl rfl rfl rfl (Q_cmp rfl rfl rfl rfl) ?_; refine S_q rfl rfl rfl (Q_pick_t rfl rfl rfl) ?_; refine Sm rfl ?_; refine S_gsplit rfl rfl rfl rfl (fun c0_6 => ?_) (fun c0_6 => ?_) <;> (try simp at c0_6); (focus (refine S_gload rfl rfl rfl rfl rfl rfl rfl rfl ?_; refine L_agg (Rd.pers ‹_›) (ty rfl) (by first | rfl | assumption) ?_; refine S_gload rfl rfl rfl rfl rfl rfl rfl rfl ?_; refine L_agg (Rd.pers ‹_›) (ty rfl) (by first | rfl | assumption) ?_; refine S_gload rfl rfl rfl rfl rfl rfl rfl rfl ?_; refine L_agg (Rd.own m1) (ty rfl) (by first | rfl | assumption) ?_; refine S_gc rfl rfl rfl rfl rfl rfl (C_callv (flying_s ‹_› ‹_› ‹_›) rfl rfl ⟨_, _, rfl, ⟨_, _, rfl, ⟨_, _, rfl, rfl, rfl⟩, rfl⟩, rfl⟩ (cal rfl) ?_); refine S_q rfl rfl rfl (Q_pick_t rfl rfl rfl) ?_; refine Sm rfl ?_; refine On ?_; refine WP_ret ?_)); rotate_left 1; (focus (refine Sn rfl ?_; refine Sn rfl ?_; refine Sn rfl ?_; refine Sn rfl ?_; refine S_q rfl rfl rfl (Q_pick_f rfl rfl rfl) ?_; refine Sm rfl ?_; refine On ?_; refine WP_ret ?_)); rotate_left 1)); rotate_left 2; (focus (refine Sn rfl ?_; refine Sn rfl ?_; refine Sn rfl ?_; refine Sn rfl ?_; refine S_q rfl rfl rfl (Q_pick_f rfl rfl rfl) ?_; refine Sm rfl ?_; refine Sn rfl ?_; refine Sn rfl ?_; refine Sn rfl ?_; refine Sn rfl ?_; refine S_q rfl rfl rfl (Q_pick_f rfl rfl rfl) ?_; refine Sm rfl ?_; refine On ?_; refine WP_ret ?_)); rotate_left 1)); rotate_left 3; (focus (refine Sn rfl ?_; refine Sn rfl ?_; refine Sn rfl ?_; refine Sn rfl ?_; refine S_q rfl rfl rfl (Q_pick_f rfl rfl rfl) ?_; refine Sm rfl ?_; refine Sn rfl ?_; refine Sn rfl ?_; refine Sn rfl ?_; refine Sn rfl ?_; refine S_q rfl rfl rfl (Q_pick_f rfl rfl rfl) ?_; refine Sm rfl ?_; refine Sn rfl ?_; refine Sn rfl ?_; refine Sn rfl ?_; refine Sn rfl ?_; refine S_q rfl rfl rfl (Q_pick_f rfl rfl rfl) ?_; refine Sm rfl ?_; refine On ?_; refine WP_ret ?_)); rotate_left 1)); rotate_left 4; (focus (refine Sn rfl ?_; refine Sn rfl ?_; refine Sn rfl ?_; refine Sn rfl ?_; refine S_q rfl rfl rfl (Q_pick_f rfl rfl rfl) ?_; refine Sm rfl ?_; refine Sn rfl ?_; refine Sn rfl ?_; refine Sn rfl ?_; refine Sn rfl ?_; refine S_q rfl rfl rfl (Q_pick_f rfl rfl rfl) ?_; refine Sm rfl ?_; refine Sn rfl ?_; refine Sn rfl ?_; refine Sn rfl ?_; refine Sn rfl ?_; refine S_q rfl rfl rfl (Q_pick_f rfl rfl rfl) ?_; refine Sm rfl ?_; refine Sn rfl ?_; refine Sn rfl ?_; refine Sn rfl ?_; refine Sn rfl ?_; refine S_q rfl rfl rfl (Q_pick_f rfl rfl rfl) ?_; refine Sm rfl ?_; refine On ?_; refine WP_ret ?_)); rotate_left 1))
  all_goals refine pret (.inl rfl) rfl ⟨_, _, rfl, rfl, rfl⟩ ?_
  all_goals (clear hx' hw; simp_all [resOf, Prod.ext_iff]; try rfl)
def carriedB (vs : List View) (frm to : Int) (id : ID) (nu : Int) : Bool := (vwAt vs frm).flights.any fun x => decide (x.to = to) && (decide (x.msg.kind = 1) && (decide (x.msg.parcel.id = id) && (decide (x.msg.parcel.number = nu) && flyB vs (vwAt vs frm) x)))
attribute [local irreducible] carriedB
theorem carried_s {h : Frag} {cs : List Value} {vs : List View} {frm to nu : Int} {id : ID} (hf : FleetC h vs cs) : PSpec Tryz.prog 61 #[.agg cs.toArray, .int .i64 frm, .int .i64 to, .agg (idc id).toArray, .int .u64 nu] h
    (fun _ v => v = .bool (carriedB vs frm to id nu)) := by
  obtain ⟨p, c, mb, ps, rfl, fv, fm, fq⟩ := hf
  have hf : FleetC h vs [.slice p vs.length c, .map (some mb)] := ⟨p, c, mb, ps, rfl, fv, fm, fq⟩
  clear fq fm fv
  refine pspec_of (vs := [.agg [Value.slice p vs.length c, .map (some mb)].toArray, .int .i64 frm, .int .i64 to, .agg (idc id).toArray, .int .u64 nu]) Tryz.func61 Tryz.ntmps61 rfl rfl ?_
  (focus (refine Wr ?_; refine S_c rfl rfl rfl (C_box rfl rfl ?_); intro b0_1; refine S_c rfl rfl rfl (C_box1 rfl rfl rfl ?_); intro b0_2; refine S_c rfl rfl rfl (C_box rfl rfl ?_); intro b0_3; refine S_c rfl rfl rfl (C_box1 rfl rfl rfl ?_); intro b0_4; refine Sm rfl ?_; refine On ?_; refine Wr ?_; refine S_load rfl rfl rfl rfl rfl ?_; refine L_agg (Rd.own m3) (ty rfl) (by first | rfl | assumption) ?_; refine Sm rfl ?_; refine S_c rfl rfl rfl (C_call0 (view_s ‹_›) rfl rfl ⟨_, _, rfl, ⟨_, _, rfl, rfl, rfl⟩, rfl⟩ (cal rfl) ?_); rintro _ ⟨cv0_5, rfl, cl0_5, co0_5, ⟨xi0_5, xa0_5, po0_5, qo0_5, ps0_5, qs0_5, pc0_5, qc0_5, pn0_5, qn0_5, pm0_5, qm0_5, xw0_5, xv0_5, pf0_5, qf0_5, pr0_5, qr0_5, xe0_5, xf0_5, rfl, vo0_5, vs0_5, vc0_5, vn0_5, vm0_5, vf0_5, vr0_5⟩⟩; refine Sm rfl ?_; refine S_q rfl rfl rfl (Q_extract rfl rfl rfl) ?_; refine S_q rfl rfl rfl (Q_extract rfl rfl rfl) ?_; refine S_c rfl rfl rfl (C_alloc rfl (zer rfl) ?_); intro b0_6; refine S_w0 rfl rfl (W_all rfl rfl rfl (ty rfl) u0 (by first | rfl | assumption) (by first | rfl | assumption) (by first | rfl | assumption | exact ones_sub ‹_› _ _) ?_); refine Sm rfl ?_; refine On ?_; refine Wr ?_; refine Sf rfl rfl rfl rfl rfl (fld rfl rfl) ?_; refine S_load rfl rfl rfl rfl rfl ?_; refine L_fld (Rd.own m0) (ty rfl) rfl ?_; refine S_q rfl rfl rfl (Q_makeFunc rfl rfl ⟨_, _, rfl, ⟨_, _, rfl, ⟨_, _, rfl, ⟨_, _, rfl, ⟨_, _, rfl, rfl, rfl⟩, rfl⟩, rfl⟩, rfl⟩, rfl⟩) ?_))
  (focus (refine OPS_keepM [] [_] _ rfl ?_; rintro h1_k l1_k k1_k; have a1_k := at_of_keep k1_k; clear k1_k; replace hf := hf.up l1_k; replace vo0_5 := vo0_5.up l1_k; replace vs0_5 := vs0_5.up l1_k; replace vc0_5 := vc0_5.up l1_k; replace vn0_5 := vn0_5.up l1_k; replace vm0_5 := vm0_5.up l1_k; replace vf0_5 := vf0_5.up l1_k; replace vr0_5 := vr0_5.up l1_k))
  (focus (refine OPS_keepM [] [_] _ rfl ?_; rintro h2_k l2_k k2_k; have a2_k := at_of_keep k2_k; clear k2_k; replace a1_k := a1_k.up l2_k; replace hf := hf.up l2_k; replace vo0_5 := vo0_5.up l2_k; replace vs0_5 := vs0_5.up l2_k; replace vc0_5 := vc0_5.up l2_k; replace vn0_5 := vn0_5.up l2_k; replace vm0_5 := vm0_5.up l2_k; replace vf0_5 := vf0_5.up l2_k; replace vr0_5 := vr0_5.up l2_k))
  (focus (refine OPS_keepM [] [_] _ rfl ?_; rintro h3_k l3_k k3_k; have a3_k := at_of_keep k3_k; clear k3_k; replace a2_k := a2_k.up l3_k; replace a1_k := a1_k.up l3_k; replace hf := hf.up l3_k; replace vo0_5 := vo0_5.up l3_k; replace vs0_5 := vs0_5.up l3_k; replace vc0_5 := vc0_5.up l3_k; replace vn0_5 := vn0_5.up l3_k; replace vm0_5 := vm0_5.up l3_k; replace vf0_5 := vf0_5.up l3_k; replace vr0_5 := vr0_5.up l3_k))
  (focus (refine OPS_keepM [] [_] _ rfl ?_; rintro h4_k l4_k k4_k; have a4_k := at_of_keep k4_k; clear k4_k; replace a3_k := a3_k.up l4_k; replace a2_k := a2_k.up l4_k; replace a1_k := a1_k.up l4_k; replace hf := hf.up l4_k; replace vo0_5 := vo0_5.up l4_k; replace vs0_5 := vs0_5.up l4_k; replace vc0_5 := vc0_5.up l4_k; replace vn0_5 := vn0_5.up l4_k; replace vm0_5 := vm0_5.up l4_k; replace vf0_5 := vf0_5.up l4_k; replace vr0_5 := vr0_5.up l4_k))
  (focus (refine OPS_keepM [] [_] _ rfl ?_; rintro h5_k l5_k k5_k; have a5_k := at_of_keep k5_k; clear k5_k; replace a4_k := a4_k.up l5_k; replace a3_k := a3_k.up l5_k; replace a2_k := a2_k.up l5_k; replace a1_k := a1_k.up l5_k; replace hf := hf.up l5_k; replace vo0_5 := vo0_5.up l5_k; replace vs0_5 := vs0_5.up l5_k; replace vc0_5 := vc0_5.up l5_k; replace vn0_5 := vn0_5.up l5_k; replace vm0_5 := vm0_5.up l5_k; replace vf0_5 := vf0_5.up l5_k; replace vr0_5 := vr0_5.up l5_k))
  refine S_c rfl rfl rfl (C_callv (hasFlight_s (cap := [ptr b0_2 0, ptr b0_3 0, ptr b0_4 0, ptr b0_1 0, ptr b0_6 0]) vf0_5 (cal rfl) (fun x ws _ hw hx => carried1_s a4_k a3_k a2_k a5_k a1_k rfl rfl hf ⟨xi0_5, _, _, _, _, _, _, _, _, _, _, _, _, _, _, _, _, _, _, _, rfl, vo0_5, vs0_5, vc0_5, vn0_5, vm0_5, vf0_5, vr0_5⟩ hx hw)) rfl rfl ⟨_, _, rfl, ⟨_, _, rfl, rfl, rfl⟩, rfl⟩ (cal rfl) ?_)
  (focus (refine Sm rfl ?_; refine On ?_; refine WP_ret ?_))
  refine pret (.inl rfl) rfl ⟨_, _, rfl, rfl, rfl⟩ ?_
  rw [carriedB]; rfl
theorem stub1_s {h : Frag} {e : StubE} {us : List Value} {b : Nat} {id : ID} (h1 : At h b 0 (idc id)) (he : StubC h e us) : PSpec Tryz.prog 58 ([Value.agg us.toArray] ++ [ptr b 0]).toArray h (fun _ v => v = .bool (decide (e.id = id) && !e.dead)) := by
  obtain ⟨xa, xb, xc, xd, xe, xf, rfl⟩ := he
  refine pspec_of (vs := [.agg _, ptr b 0]) Tryz.func58 Tryz.ntmps58 rfl rfl ?_
  (focus (refine Wr ?_; refine S_c rfl rfl rfl (C_box rfl rfl ?_); intro b0_1; refine Sm rfl ?_; refine On ?_; refine Wr ?_; refine Sf rfl rfl rfl rfl rfl (fld rfl rfl) ?_; refine S_load rfl rfl rfl rfl rfl ?_; refine L_sub (Rd.own m0) (ty rfl) rfl ?_; refine S_load rfl rfl rfl rfl rfl ?_; refine L_agg (Rd.pers ‹_›) (ty rfl) (by first | rfl | assumption) ?_; refine S_q rfl rfl rfl (Q_eqI eqID rfl rfl rfl rfl rfl) ?_; refine Sm rfl ?_; refine S_gsplit rfl rfl rfl rfl (fun c0_2 => ?_) (fun c0_2 => ?_) <;> (try simp at c0_2); (focus (refine S_gq rfl rfl rfl rfl rfl rfl (Q_fieldAddr rfl rfl (fld rfl rfl)) ?_; refine S_gload rfl rfl rfl rfl rfl rfl rfl rfl ?_; refine L_fld (Rd.own m0) (ty rfl) rfl ?_; refine S_gq rfl rfl rfl rfl rfl rfl (Q_not rfl rfl) ?_; refine S_q rfl rfl rfl (Q_pick_t rfl rfl rfl) ?_; refine Sm rfl ?_; refine On ?_; refine WP_ret ?_)); rotate_left 1; (focus (refine Sn rfl ?_; refine Sn rfl ?_; refine Sn rfl ?_; refine S_q rfl rfl rfl (Q_pick_f rfl rfl rfl) ?_; refine Sm rfl ?_; refine On ?_; refine WP_ret ?_)); rotate_left 1))
  all_goals refine pret (.inl rfl) rfl ⟨_, _, rfl, rfl, rfl⟩ ?_
  all_goals (simp_all [resOf, Prod.ext_iff]; try rfl)
end Go.Proofs.YtfhoecgiahpddaaGreat
/-
  CONTRACTS: the way to an object (Follow).
-/
set_option linter.all false
namespace Go.Proofs.YtfhoecgiahpddaaGreat
open Go.Mesh Go.RowKit
set_option maxRecDepth 100000
set_option linter.unusedVariables false
set_option maxHeartbeats 4000000
attribute [local irreducible] WP OPS ANY ANYo LG LV FSpec PSpec QOP OPc OPw thenQ blockQ roundQ roundF retQ retM Rd At SLB OS cmpI orI cmpID namedB valB nodeB kindB validG valAux idxI findG zeroV viewOf vwAt idxOf recv flyB scionOf moveOf numberedOf idOf valueOf mget mput localB carriedB
theorem nodup_sub : ∀ (l r : List Int), l.Nodup → (∀ x, x ∈ l → x ∈ r) → l.length ≤ r.length
  | [], _, _, _ => by simp
  | x :: l, r, hn, hs => by
    rw [List.nodup_cons] at hn
    have hx := hs x (by simp)
    have := nodup_sub l (r.erase x) hn.2 (fun y hy => (List.mem_erase_of_ne (fun e : y = x => hn.1 (by rw [← e]; exact hy))).2 (hs y (by simp [hy])))
    have hl := List.length_erase_of_mem hx
    have : 0 < r.length := List.length_pos_of_mem hx
    simp; omega
theorem viewOf_mem {vs : List View} {m : Int} (h : (viewOf vs m).isSome = true) : m ∈ vs.map (·.machine) := by
  obtain ⟨v, hv⟩ := Option.isSome_iff_exists.1 h
  unfold viewOf at hv
  have h1 := List.mem_of_find?_eq_some hv
  have h2 := List.find?_some hv
  simp only [decide_eq_true_eq] at h2
  exact List.mem_map.2 ⟨v, h1, h2⟩
def stubOf (v : View) (id : ID) : Option StubE := v.stubs.find? fun e => decide (e.id = id) && !e.dead
def followF (vs : List View) (id : ID) : Nat → Int → List Int → List Int × Int
  | 0, _, _ => ([], 11)
  | n + 1, m, out =>
    if (viewOf vs m).isSome = false ∨ (localB (vwAt vs m) id = false ∧ (stubOf (vwAt vs m) id).isSome = false) then (if out = [] then ([], 6) else ([], 11))
    else if m ∈ out then ([], 11)
    else if localB (vwAt vs m) id then (out ++ [m], 0)
    else match stubOf (vwAt vs m) id with
      | none => ([], 11)
      | some s => match scionOf vs s.owner m s.number with
        | some e => if e.id = id then followF vs id n s.owner (out ++ [m]) else ([], 11)
        | none => if carriedB vs m s.owner id s.number then ((out ++ [m]) ++ [s.owner], 0) else ([], 11)
def followOf (vs : List View) (m : Int) (id : ID) : List Int × Int := followF vs id (vs.length + 1) m []
attribute [local irreducible] stubOf followF followOf
theorem follow_s {h : Frag} {a : Value} {vs : List View} {mm : Int} {id : ID} (hs : SL h 13 (ViewC 4398046511104) a vs) (hsm : vs.length ≤ 1000) : PSpec Tryz.prog 21 #[a, .int .i64 mm, .agg (idc id).toArray] h
    (fun h' v => ∃ p c, v = .tuple #[.slice p (followOf vs mm id).1.length c, .int .i64 (followOf vs mm id).2] ∧ SL h' 1 IntC (.slice p (followOf vs mm id).1.length c) (followOf vs mm id).1) := by
  have hl := hs.le
  refine pspec_of (vs := [a, .int .i64 mm, .agg (idc id).toArray]) Tryz.func21 Tryz.ntmps21 rfl rfl ?_
  (focus (refine Wr ?_; refine S_c rfl rfl rfl (C_box rfl rfl ?_); intro b0_1; refine Sm rfl ?_; refine Sm rfl ?_; refine On ?_; refine Wr ?_; refine Sm rfl ?_; refine S_c rfl rfl rfl (C_call (of_s ‹_›) rfl rfl ⟨_, _, rfl, rfl, rfl⟩ (cal rfl) ?_); rintro h0_2 _ l0_2 ⟨pf0_2, qf0_2, mb0_2, rfl, ff0_2⟩; replace hs := hs.up l0_2; refine S_c rfl rfl rfl (C_alloc rfl (zer rfl) ?_); intro b0_3; refine S_w0 rfl rfl (W_all rfl rfl rfl (ty rfl) u0 (by first | rfl | assumption) (by first | rfl | assumption) (by first | rfl | assumption | exact ones_sub ‹_› _ _) ?_); refine On ?_; refine Wr ?_; refine Sm rfl ?_; refine On ?_; refine WP_block ?_))
  (focus (refine WP_keepM [] [_] _ rfl ?_; rintro h1_k l1_k k1_k; have a1_k := at_of_keep k1_k; clear k1_k; replace ff0_2 := ff0_2.up l1_k; replace hs := hs.up l1_k))
  (focus (refine WP_keepM [] [_] _ rfl ?_; rintro h2_k l2_k k2_k; have a2_k := at_of_keep k2_k; clear k2_k; replace a1_k := a1_k.up l2_k; replace ff0_2 := ff0_2.up l2_k; replace hs := hs.up l2_k))
  (refine WP_loopM (α := Int × List Int × Value × Hp) []  _ [8, 5] (fun (s : Int × List Int × Value × Hp) => vs.length + 1 - s.2.1.length) (fun (s : Int × List Int × Value × Hp) =>  s.2.2.2) (fun (s : Int × List Int × Value × Hp) => [(1, .int .i64 s.1), (9, s.2.2.1)]) (fun hh (s : Int × List Int × Value × Hp) => hh = h2_k ∧ OS hh 3 1 IntC s.2.2.1 s.2.1 s.2.2.2 ∧ s.2.1.Nodup ∧ (∀ x, x ∈ s.2.1 → (viewOf vs x).isSome = true) ∧ followF vs id (vs.length + 1 - s.2.1.length) s.1 s.2.1 = followOf vs mm id) (mm, [], .slice none 0 0, []) rfl ⟨_, _, rfl, ⟨_, _, rfl, rfl, rfl⟩, rfl⟩ (by repeat' first | exact trivial | refine ⟨rfl, ?_⟩) ?_ ?_)
  · exact ⟨rfl, OS.nil _ _ _ _, List.nodup_nil, fun x hx => by simp at hx, by rw [followOf]; rfl⟩
  rintro h1 ⟨m, out, sv, M⟩ _ ⟨rfl, hos, hnd, hvw, hfo⟩
  simp only at hos hnd hvw hfo
  have hol : out.length ≤ vs.length := by
    have := nodup_sub out (vs.map (·.machine)) hnd (fun x hx => viewOf_mem (hvw x hx))
    simpa using this
  obtain ⟨n, hn⟩ : ∃ n, vs.length + 1 - out.length = n + 1 := ⟨vs.length - out.length, by omega⟩
  rw [hn, followF] at hfo
  dsimp only
  (focus (refine WP_block ?_; refine Wr ?_; refine S_load rfl rfl rfl rfl rfl ?_; refine L_agg (Rd.pers ‹_›) (ty rfl) (by first | rfl | assumption) ?_; refine Sm rfl ?_; refine S_c rfl rfl rfl (C_call0 (view_s ‹_›) rfl rfl ⟨_, _, rfl, ⟨_, _, rfl, rfl, rfl⟩, rfl⟩ (cal rfl) ?_); rintro _ ⟨cv4_1, rfl, cl4_1, co4_1, ⟨xi4_1, xa4_1, po4_1, qo4_1, ps4_1, qs4_1, pc4_1, qc4_1, pn4_1, qn4_1, pm4_1, qm4_1, xw4_1, xv4_1, pf4_1, qf4_1, pr4_1, qr4_1, xe4_1, xf4_1, rfl, vo4_1, vs4_1, vc4_1, vn4_1, vm4_1, vf4_1, vr4_1⟩⟩; refine Sm rfl ?_; refine S_q rfl rfl rfl (Q_extract rfl rfl rfl) ?_; refine S_q rfl rfl rfl (Q_extract rfl rfl rfl) ?_; refine S_c rfl rfl rfl (C_alloc rfl (zer rfl) ?_); intro b4_2; refine S_w0 rfl rfl (W_all rfl rfl rfl (ty rfl) u0 (by first | rfl | assumption) (by first | rfl | assumption) (by first | rfl | assumption | exact ones_sub ‹_› _ _) ?_); refine Sm rfl ?_; refine On ?_; refine Wr ?_; refine S_load rfl rfl rfl rfl rfl ?_; refine L_agg (Rd.own m0) (ty rfl) (by first | rfl | assumption) ?_; refine S_load rfl rfl rfl rfl rfl ?_; refine L_agg (Rd.pers ‹_›) (ty rfl) (by first | rfl | assumption) ?_; refine S_c rfl rfl rfl (C_callv (local_s ⟨by assumption, _, _, _, _, _, _, _, _, _, _, _, _, _, _, _, _, _, _, _, rfl, by assumption, by assumption, by assumption, by assumption, by assumption, by assumption, by assumption⟩) rfl rfl ⟨_, _, rfl, ⟨_, _, rfl, rfl, rfl⟩, rfl⟩ (cal rfl) ?_); refine Sm rfl ?_; refine On ?_; refine Wr ?_; refine Sf rfl rfl rfl rfl rfl (fld rfl rfl) ?_; refine S_load rfl rfl rfl rfl rfl ?_; refine L_fld (Rd.own m0) (ty rfl) rfl ?_; refine S_q rfl rfl rfl (Q_makeFunc rfl rfl ⟨_, _, rfl, rfl, rfl⟩) ?_))
  refine S_c rfl rfl rfl (C_callv (idxStub_s (cap := [ptr b0_1 0]) vs4_1 (cal rfl) (fun x us _ _ hx => stub1_s a2_k hx)) rfl rfl ⟨_, _, rfl, ⟨_, _, rfl, rfl, rfl⟩, rfl⟩ (cal rfl) ?_)
  cases hi : (vwAt vs m).stubs.findIdx? (fun e => decide (e.id = id) && !e.dead) with
  | none =>
    have hst : stubOf (vwAt vs m) id = none := by rw [stubOf]; exact findIdx_none hi
    simp only [idxI]
    (focus (refine Sm rfl ?_; refine On ?_; refine WP_seq ?_; refine WP_block ?_; refine Wr ?_; refine Sm rfl ?_; refine S_q rfl rfl rfl (Q_not rfl rfl) ?_; refine Sm rfl ?_; refine S_gsplit rfl rfl rfl rfl (fun c5_1 => ?_) (fun c5_1 => ?_) <;> (first | (simp [*] at c5_1; done) | (try simp at c5_1)); (focus (refine Sn rfl ?_; refine Sn rfl ?_; refine Sn rfl ?_; refine S_gu rfl rfl rfl rfl rfl rfl ?_; refine S_gu rfl rfl rfl rfl rfl rfl ?_; refine Sn rfl ?_; refine S_q rfl rfl rfl (Q_pick_t rfl rfl rfl) ?_; refine Sm rfl ?_; refine S_gq rfl rfl rfl rfl rfl rfl (Q_move rfl rfl) ?_; refine S_gq rfl rfl rfl rfl rfl rfl (Q_lenO rfl rfl rfl rfl rfl rfl ‹_›) ?_; refine S_gq rfl rfl rfl rfl rfl rfl (Q_cmp rfl rfl rfl rfl) ?_; refine S_q rfl rfl rfl (Q_pick_t rfl rfl rfl) ?_; refine Sm rfl ?_; refine On ?_; refine WP_cond rfl (fun c5_2 => ?_) (fun c5_2 => ?_) <;> (first | (simp [*] at c5_2; done) | (try simp at c5_2)); (focus (refine Wr ?_; refine Sm rfl ?_; refine Sm rfl ?_; refine On ?_; refine WP_ret ?_; refine block_r ?_; refine then_r ?_; refine block_r ?_; refine roundF_r ?_; refine block_r ?_)); rotate_left 1; (focus (refine WP_seq ?_; refine Wr ?_; refine Sm rfl ?_; refine S_q rfl rfl rfl (Q_not rfl rfl) ?_; refine Sm rfl ?_; refine On ?_; refine WP_cond rfl (fun c5_3 => ?_) (fun c5_3 => ?_) <;> (first | (simp [*] at c5_3; done) | (try simp at c5_3)); refine WP_skip ?_; refine then_n ?_; refine WP_cond rfl (fun c5_4 => ?_) (fun c5_4 => ?_) <;> (first | (simp [*] at c5_4; done) | (try simp at c5_4)); refine Wr ?_; refine Sm rfl ?_; refine Sm rfl ?_; refine On ?_; refine WP_ret ?_; refine block_r ?_; refine then_r ?_; refine block_r ?_; refine roundF_r ?_; refine block_r ?_)); rotate_left 1)); rotate_left 2; (focus (refine S_gq rfl rfl rfl rfl rfl rfl (Q_move rfl rfl) ?_; refine S_gq rfl rfl rfl rfl rfl rfl (Q_not rfl rfl) ?_; refine S_gq rfl rfl rfl rfl rfl rfl (Q_move rfl rfl) ?_; refine S_gsplit rfl rfl rfl rfl (fun c5_5 => ?_) (fun c5_5 => ?_) <;> (first | (simp [*] at c5_5; done) | (try simp at c5_5)); (focus (refine S_gq rfl rfl rfl rfl rfl rfl (Q_move rfl rfl) ?_; refine S_gq rfl rfl rfl rfl rfl rfl (Q_cmp rfl rfl rfl rfl) ?_; refine S_gq rfl rfl rfl rfl rfl rfl (Q_pick_t rfl rfl rfl) ?_; refine S_q rfl rfl rfl (Q_pick_f rfl rfl rfl) ?_; refine Sm rfl ?_; refine S_gsplit rfl rfl rfl rfl (fun c5_6 => ?_) (fun c5_6 => ?_) <;> (first | (simp [*] at c5_6; done) | (try simp at c5_6)); refine S_gq rfl rfl rfl rfl rfl rfl (Q_move rfl rfl) ?_; refine S_gq rfl rfl rfl rfl rfl rfl (Q_lenO rfl rfl rfl rfl rfl rfl ‹_›) ?_; refine S_gq rfl rfl rfl rfl rfl rfl (Q_cmp rfl rfl rfl rfl) ?_; refine S_q rfl rfl rfl (Q_pick_t rfl rfl rfl) ?_; refine Sm rfl ?_; refine On ?_; refine WP_cond rfl (fun c5_7 => ?_) (fun c5_7 => ?_) <;> (first | (simp [*] at c5_7; done) | (try simp at c5_7)); (focus (refine Wr ?_; refine Sm rfl ?_; refine Sm rfl ?_; refine On ?_; refine WP_ret ?_; refine block_r ?_; refine then_r ?_; refine block_r ?_; refine roundF_r ?_; refine block_r ?_)); rotate_left 1; (focus (refine WP_seq ?_; refine Wr ?_; refine Sm rfl ?_; refine S_q rfl rfl rfl (Q_not rfl rfl) ?_; refine Sm rfl ?_; refine On ?_; refine WP_cond rfl (fun c5_8 => ?_) (fun c5_8 => ?_) <;> (first | (simp [*] at c5_8; done) | (try simp at c5_8)); refine Wr ?_; refine Sm rfl ?_; refine S_q rfl rfl rfl (Q_not rfl rfl) ?_; refine Sm rfl ?_; refine S_gsplit rfl rfl rfl rfl (fun c5_9 => ?_) (fun c5_9 => ?_) <;> (first | (simp [*] at c5_9; done) | (try simp at c5_9)); refine S_gq rfl rfl rfl rfl rfl rfl (Q_move rfl rfl) ?_; refine S_gq rfl rfl rfl rfl rfl rfl (Q_cmp rfl rfl rfl rfl) ?_; refine S_q rfl rfl rfl (Q_pick_t rfl rfl rfl) ?_; refine Sm rfl ?_; refine On ?_; refine cond_t rfl ?_; refine WP_skip ?_; refine then_n ?_; refine cond_t rfl ?_; refine Wr ?_; refine Sm rfl ?_; refine Sm rfl ?_; refine On ?_; refine WP_ret ?_; refine block_r ?_; refine then_r ?_; refine block_r ?_; refine roundF_r ?_; refine block_r ?_)); rotate_left 1)); rotate_left 2; (focus (refine Sn rfl ?_; refine Sn rfl ?_; refine S_gq rfl rfl rfl rfl rfl rfl (Q_pick_f rfl rfl rfl) ?_; refine S_q rfl rfl rfl (Q_pick_f rfl rfl rfl) ?_; refine Sm rfl ?_; refine Sn rfl ?_; refine Sn rfl ?_; refine Sn rfl ?_; refine S_q rfl rfl rfl (Q_pick_f rfl rfl rfl) ?_; refine Sm rfl ?_; refine On ?_; refine cond_f rfl ?_; refine WP_seq ?_; refine Wr ?_; refine Sm rfl ?_; refine S_q rfl rfl rfl (Q_not rfl rfl) ?_; refine Sm rfl ?_; refine On ?_; refine WP_cond rfl (fun c5_10 => ?_) (fun c5_10 => ?_) <;> (first | (simp [*] at c5_10; done) | (try simp at c5_10)); refine Wr ?_; refine Sm rfl ?_; refine S_q rfl rfl rfl (Q_not rfl rfl) ?_; refine Sm rfl ?_; refine S_gsplit rfl rfl rfl rfl (fun c5_11 => ?_) (fun c5_11 => ?_) <;> (first | (simp [*] at c5_11; done) | (try simp at c5_11)); refine Sn rfl ?_; refine Sn rfl ?_; refine S_q rfl rfl rfl (Q_pick_f rfl rfl rfl) ?_; refine Sm rfl ?_; refine On ?_; refine cond_f rfl ?_; refine R_region ?_; refine Sm rfl ?_; refine Sm rfl ?_)); rotate_left 1)); rotate_left 3))
    iterate 4
      · refine pret (.inl rfl) rfl ⟨_, _, rfl, ⟨_, _, rfl, rfl, rfl⟩, rfl⟩ ?_
        first
          | (have hres : followOf vs mm id = ([], 6) := by rw [← hfo]; simp [*]
             rw [hres]; exact ⟨_, _, rfl, SLB.nil _ _ _ _ _ _⟩)
          | (have hres : followOf vs mm id = ([], 11) := by rw [← hfo]; simp [*]
             rw [hres]; exact ⟨_, _, rfl, SLB.nil _ _ _ _ _ _⟩)
    refine S_w rfl rfl rfl (W_callBv (M := M) [_] _ (fun h' hl' hm => containsInt_s (x := m) (hos.sl hl' IntC_mono hm (by omega))) rfl rfl ⟨_, _, rfl, ⟨_, _, rfl, rfl, rfl⟩, rfl⟩ (cal rfl) rfl ?_)
    (focus (refine Sm rfl ?_; refine On ?_; refine WP_cond rfl (fun c6_1 => ?_) (fun c6_1 => ?_) <;> (first | (simp [*] at c6_1; done) | (try simp at c6_1)); (focus (refine Wr ?_; refine Sm rfl ?_; refine Sm rfl ?_; refine On ?_; refine WP_ret ?_; refine block_r ?_; refine then_r ?_; refine block_r ?_; refine roundF_r ?_; refine block_r ?_)); rotate_left 1; (focus (refine WP_skip ?_; refine block_n ?_; refine then_n ?_; refine Wr ?_; refine Sm rfl ?_; refine Sm rfl ?_; refine S_c rfl rfl rfl (C_buildSlice rfl (elm rfl) (zer rfl) rfl ⟨_, _, _, rfl, rfl, rfl, rfl, rfl, rfl⟩ rfl rfl ?_); intro b6_2; refine S_w rfl rfl rfl (W_app1 [_] _ ‹_› rfl rfl rfl rfl rfl rfl (elm rfl) (zer rfl) rfl rfl rfl rfl rfl (by (try simp only [lA]); omega) (by (try simp only [lA]); omega) ?_); rintro p6_3 q6_3 m6_3 o6_3; refine Sm rfl ?_; refine On ?_; refine WP_seq ?_; refine Wr ?_; refine Sm rfl ?_; refine On ?_; refine WP_cond rfl (fun c6_4 => ?_) (fun c6_4 => ?_) <;> (first | (simp [*] at c6_4; done) | (try simp at c6_4)); refine Wr ?_; refine Sm rfl ?_; refine Sm rfl ?_; refine Sm rfl ?_; refine On ?_; refine WP_ret ?_; refine then_r ?_; refine block_r ?_; refine roundF_r ?_; refine block_r ?_)); rotate_left 1))
    · refine pret (.inl rfl) rfl ⟨_, _, rfl, ⟨_, _, rfl, rfl, rfl⟩, rfl⟩ ?_
      have hres : followOf vs mm id = ([], 11) := by rw [← hfo]; simp [*]
      rw [hres]; exact ⟨_, _, rfl, SLB.nil _ _ _ _ _ _⟩
    · have hres : followOf vs mm id = (out ++ [m], 0) := by rw [← hfo]; simp [*]
      refine pretKM [_] m6_3 _ rfl (.inl rfl) rfl ⟨_, _, rfl, ⟨_, _, rfl, rfl, rfl⟩, rfl⟩ fun h' hl' hm => ?_
      rw [hres]; exact ⟨_, _, rfl, o6_3.sl hl' IntC_mono hm (by simp; omega)⟩
  | some k =>
    obtain ⟨st, est, hst⟩ := findIdx_find hi
    have hst : stubOf (vwAt vs m) id = some st := by rw [stubOf]; exact hst
    simp only [idxI]
    (focus (refine Sm rfl ?_; refine On ?_; refine WP_seq ?_; refine WP_block ?_; refine Wr ?_; refine Sm rfl ?_; refine S_q rfl rfl rfl (Q_not rfl rfl) ?_; refine Sm rfl ?_; refine S_gsplit rfl rfl rfl rfl (fun c7_1 => ?_) (fun c7_1 => ?_) <;> (first | (simp [*] at c7_1; done) | (try simp at c7_1)); (focus (refine Sn rfl ?_; refine Sn rfl ?_; refine Sn rfl ?_; refine S_gu rfl rfl rfl rfl rfl rfl ?_; refine S_gu rfl rfl rfl rfl rfl rfl ?_; refine Sn rfl ?_; refine S_q rfl rfl rfl (Q_pick_t rfl rfl rfl) ?_; refine Sm rfl ?_; refine S_gq rfl rfl rfl rfl rfl rfl (Q_move rfl rfl) ?_; refine S_gq rfl rfl rfl rfl rfl rfl (Q_lenO rfl rfl rfl rfl rfl rfl ‹_›) ?_; refine S_gq rfl rfl rfl rfl rfl rfl (Q_cmp rfl rfl rfl rfl) ?_; refine S_q rfl rfl rfl (Q_pick_t rfl rfl rfl) ?_; refine Sm rfl ?_; refine On ?_; refine WP_cond rfl (fun c7_2 => ?_) (fun c7_2 => ?_) <;> (first | (simp [*] at c7_2; done) | (try simp at c7_2)); (focus (refine Wr ?_; refine Sm rfl ?_; refine Sm rfl ?_; refine On ?_; refine WP_ret ?_; refine block_r ?_; refine then_r ?_; refine block_r ?_; refine roundF_r ?_; refine block_r ?_)); rotate_left 1; (focus (refine WP_seq ?_; refine Wr ?_; refine Sm rfl ?_; refine S_q rfl rfl rfl (Q_not rfl rfl) ?_; refine Sm rfl ?_; refine On ?_; refine WP_cond rfl (fun c7_3 => ?_) (fun c7_3 => ?_) <;> (first | (simp [*] at c7_3; done) | (try simp at c7_3)); refine WP_skip ?_; refine then_n ?_; refine WP_cond rfl (fun c7_4 => ?_) (fun c7_4 => ?_) <;> (first | (simp [*] at c7_4; done) | (try simp at c7_4)); refine Wr ?_; refine Sm rfl ?_; refine Sm rfl ?_; refine On ?_; refine WP_ret ?_; refine block_r ?_; refine then_r ?_; refine block_r ?_; refine roundF_r ?_; refine block_r ?_)); rotate_left 1)); rotate_left 2; (focus (refine S_gq rfl rfl rfl rfl rfl rfl (Q_move rfl rfl) ?_; refine S_gq rfl rfl rfl rfl rfl rfl (Q_not rfl rfl) ?_; refine S_gq rfl rfl rfl rfl rfl rfl (Q_move rfl rfl) ?_; refine S_gsplit rfl rfl rfl rfl (fun c7_5 => ?_) (fun c7_5 => ?_) <;> (first | (simp [*] at c7_5; done) | (try simp at c7_5)); (focus (refine S_gq rfl rfl rfl rfl rfl rfl (Q_move rfl rfl) ?_; refine S_gq rfl rfl rfl rfl rfl rfl (Q_cmp rfl rfl rfl rfl) ?_; refine S_gq rfl rfl rfl rfl rfl rfl (Q_pick_t rfl rfl rfl) ?_; refine S_q rfl rfl rfl (Q_pick_f rfl rfl rfl) ?_; refine Sm rfl ?_; refine S_gsplit rfl rfl rfl rfl (fun c7_6 => ?_) (fun c7_6 => ?_) <;> (first | (simp [*] at c7_6; done) | (try simp at c7_6)); (focus (exfalso; omega)); (focus (refine Sn rfl ?_; refine Sn rfl ?_; refine Sn rfl ?_; refine S_q rfl rfl rfl (Q_pick_f rfl rfl rfl) ?_; refine Sm rfl ?_; refine On ?_; refine cond_f rfl ?_; refine WP_seq ?_; refine Wr ?_; refine Sm rfl ?_; refine S_q rfl rfl rfl (Q_not rfl rfl) ?_; refine Sm rfl ?_; refine On ?_; refine WP_cond rfl (fun c7_7 => ?_) (fun c7_7 => ?_) <;> (first | (simp [*] at c7_7; done) | (try simp at c7_7)); refine Wr ?_; refine Sm rfl ?_; refine S_q rfl rfl rfl (Q_not rfl rfl) ?_; refine Sm rfl ?_; refine S_gsplit rfl rfl rfl rfl (fun c7_8 => ?_) (fun c7_8 => ?_) <;> (first | (simp [*] at c7_8; done) | (try simp at c7_8)); refine S_gq rfl rfl rfl rfl rfl rfl (Q_move rfl rfl) ?_; refine S_gq rfl rfl rfl rfl rfl rfl (Q_cmp rfl rfl rfl rfl) ?_; refine S_q rfl rfl rfl (Q_pick_t rfl rfl rfl) ?_; refine Sm rfl ?_; refine On ?_; refine cond_f rfl ?_; refine R_region ?_; refine Sm rfl ?_; refine Sm rfl ?_)); rotate_left 1)); rotate_left 1; (focus (refine Sn rfl ?_; refine Sn rfl ?_; refine S_gq rfl rfl rfl rfl rfl rfl (Q_pick_f rfl rfl rfl) ?_; refine S_q rfl rfl rfl (Q_pick_f rfl rfl rfl) ?_; refine Sm rfl ?_; refine Sn rfl ?_; refine Sn rfl ?_; refine Sn rfl ?_; refine S_q rfl rfl rfl (Q_pick_f rfl rfl rfl) ?_; refine Sm rfl ?_; refine On ?_; refine cond_f rfl ?_; refine WP_seq ?_; refine Wr ?_; refine Sm rfl ?_; refine S_q rfl rfl rfl (Q_not rfl rfl) ?_; refine Sm rfl ?_; refine On ?_; refine WP_cond rfl (fun c7_9 => ?_) (fun c7_9 => ?_) <;> (first | (simp [*] at c7_9; done) | (try simp at c7_9)); refine Wr ?_; refine Sm rfl ?_; refine S_q rfl rfl rfl (Q_not rfl rfl) ?_; refine Sm rfl ?_; refine S_gsplit rfl rfl rfl rfl (fun c7_10 => ?_) (fun c7_10 => ?_) <;> (first | (simp [*] at c7_10; done) | (try simp at c7_10)); refine Sn rfl ?_; refine Sn rfl ?_; refine S_q rfl rfl rfl (Q_pick_f rfl rfl rfl) ?_; refine Sm rfl ?_; refine On ?_; refine cond_f rfl ?_; refine R_region ?_; refine Sm rfl ?_; refine Sm rfl ?_)); rotate_left 1)); rotate_left 2))
    iterate 2
      · refine pret (.inl rfl) rfl ⟨_, _, rfl, ⟨_, _, rfl, rfl, rfl⟩, rfl⟩ ?_
        first
          | (have hres : followOf vs mm id = ([], 6) := by rw [← hfo]; simp [*]
             rw [hres]; exact ⟨_, _, rfl, SLB.nil _ _ _ _ _ _⟩)
          | (have hres : followOf vs mm id = ([], 11) := by rw [← hfo]; simp [*]
             rw [hres]; exact ⟨_, _, rfl, SLB.nil _ _ _ _ _ _⟩)
    · refine S_w rfl rfl rfl (W_callBv (M := M) [_] _ (fun h' hl' hm => containsInt_s (x := m) (hos.sl hl' IntC_mono hm (by omega))) rfl rfl ⟨_, _, rfl, ⟨_, _, rfl, rfl, rfl⟩, rfl⟩ (cal rfl) rfl ?_)
      (focus (refine Sm rfl ?_; refine On ?_; refine WP_cond rfl (fun c8_1 => ?_) (fun c8_1 => ?_) <;> (first | (simp [*] at c8_1; done) | (try simp at c8_1)); (focus (refine Wr ?_; refine Sm rfl ?_; refine Sm rfl ?_; refine On ?_; refine WP_ret ?_; refine block_r ?_; refine then_r ?_; refine block_r ?_; refine roundF_r ?_; refine block_r ?_)); rotate_left 1; (focus (refine WP_skip ?_; refine block_n ?_; refine then_n ?_; refine Wr ?_; refine Sm rfl ?_; refine Sm rfl ?_; refine S_c rfl rfl rfl (C_buildSlice rfl (elm rfl) (zer rfl) rfl ⟨_, _, _, rfl, rfl, rfl, rfl, rfl, rfl⟩ rfl rfl ?_); intro b8_2; refine S_w rfl rfl rfl (W_app1 [_] _ ‹_› rfl rfl rfl rfl rfl rfl (elm rfl) (zer rfl) rfl rfl rfl rfl rfl (by (try simp only [lA]); omega) (by (try simp only [lA]); omega) ?_); rintro p8_3 q8_3 m8_3 o8_3; refine Sm rfl ?_; refine On ?_; refine WP_seq ?_; refine Wr ?_; refine Sm rfl ?_; refine On ?_; refine WP_cond rfl (fun c8_4 => ?_) (fun c8_4 => ?_) <;> (first | (simp [*] at c8_4; done) | (try simp at c8_4)); refine WP_skip ?_; refine then_n ?_; refine Wr ?_; refine Sf rfl rfl rfl rfl rfl (fld rfl rfl) ?_; refine S_load rfl rfl rfl rfl rfl ?_; refine L_fld (Rd.own m0) (ty rfl) rfl ?_; refine Sm rfl ?_; refine S_q rfl rfl rfl (Q_indexS ‹_› ‹_› rfl rfl rfl (elm rfl) rfl) ?_; refine S_load rfl rfl rfl rfl rfl ?_; refine L_elA ‹_› ‹_› (ty rfl) ?_; rintro _ _ _ ⟨xa8_5, xb8_5, xc8_5, xd8_5, xe8_5, xf8_5, rfl⟩; refine S_c rfl rfl rfl (C_alloc rfl (zer rfl) ?_); intro b8_6; refine S_w0 rfl rfl (W_all rfl rfl rfl (ty rfl) u0 (by first | rfl | assumption) (by first | rfl | assumption) (by first | rfl | assumption | exact ones_sub ‹_› _ _) ?_); refine On ?_; refine Wr ?_; refine S_load rfl rfl rfl rfl rfl ?_; refine L_agg (Rd.pers ‹_›) (ty rfl) (by first | rfl | assumption) ?_; refine Sf rfl rfl rfl rfl rfl (fld rfl rfl) ?_; refine S_load rfl rfl rfl rfl rfl ?_; refine L_fld (Rd.own m0) (ty rfl) rfl ?_; refine Sm rfl ?_; refine Sf rfl rfl rfl rfl rfl (fld rfl rfl) ?_; refine S_load rfl rfl rfl rfl rfl ?_; refine L_fld (Rd.own m0) (ty rfl) rfl ?_; refine S_c rfl rfl rfl (C_call0 (scion_s ‹_›) rfl rfl ⟨_, _, rfl, ⟨_, _, rfl, ⟨_, _, rfl, ⟨_, _, rfl, rfl, rfl⟩, rfl⟩, rfl⟩, rfl⟩ (cal rfl) ?_); rintro _ ⟨cv8_7, rfl, cl8_7, co8_7, ⟨xa8_7, xb8_7, xc8_7, xd8_7, xe8_7, xf8_7, xg8_7, xh8_7, rfl⟩⟩; refine Sm rfl ?_; refine S_q rfl rfl rfl (Q_extract rfl rfl rfl) ?_; refine S_q rfl rfl rfl (Q_extract rfl rfl rfl) ?_; refine S_c rfl rfl rfl (C_alloc rfl (zer rfl) ?_); intro b8_8; refine S_w0 rfl rfl (W_all rfl rfl rfl (ty rfl) u0 (by first | rfl | assumption) (by first | rfl | assumption) (by first | rfl | assumption | exact ones_sub ‹_› _ _) ?_); refine Sm rfl ?_; refine On ?_; refine WP_block ?_; refine Wr ?_; refine Sm rfl ?_; refine Sm rfl ?_; refine S_gsplit rfl rfl rfl rfl (fun c8_9 => ?_) (fun c8_9 => ?_) <;> (first | (simp [*] at c8_9; done) | (try simp at c8_9)); (focus (refine S_gq rfl rfl rfl rfl rfl rfl (Q_fieldAddr rfl rfl (fld rfl rfl)) ?_; refine S_gload rfl rfl rfl rfl rfl rfl rfl rfl ?_; refine L_sub (Rd.own m0) (ty rfl) rfl ?_; refine S_gload rfl rfl rfl rfl rfl rfl rfl rfl ?_; refine L_agg (Rd.pers ‹_›) (ty rfl) (by first | rfl | assumption) ?_; refine S_gq rfl rfl rfl rfl rfl rfl (Q_eqI eqID rfl rfl rfl rfl rfl) ?_; refine S_q rfl rfl rfl (Q_pick_t rfl rfl rfl) ?_; refine Sm rfl ?_; refine On ?_; refine WP_cond rfl (fun c8_10 => ?_) (fun c8_10 => ?_) <;> (first | (simp [*] at c8_10; done) | (try simp at c8_10)); (focus (refine R_region ?_; refine Sf rfl rfl rfl rfl rfl (fld rfl rfl) ?_; refine S_load rfl rfl rfl rfl rfl ?_; refine L_fld (Rd.own m1) (ty rfl) rfl ?_; refine Sm rfl ?_; refine OPS_nil ?_; refine block_n ?_; refine block_n ?_)); rotate_left 1; (focus (refine Wr ?_; refine Sm rfl ?_; refine S_q rfl rfl rfl (Q_not rfl rfl) ?_; refine Sm rfl ?_; refine S_gsplit rfl rfl rfl rfl (fun c8_11 => ?_) (fun c8_11 => ?_) <;> (first | (simp [*] at c8_11; done) | (try simp at c8_11)); refine Sn rfl ?_; refine Sn rfl ?_; refine Sn rfl ?_; refine Sn rfl ?_; refine Sn rfl ?_; refine Sn rfl ?_; refine Sn rfl ?_; refine Sn rfl ?_; refine S_q rfl rfl rfl (Q_pick_f rfl rfl rfl) ?_; refine Sm rfl ?_; refine On ?_; refine cond_f rfl ?_; refine Wr ?_; refine Sm rfl ?_; refine Sm rfl ?_; refine On ?_; refine WP_ret ?_; refine block_r ?_; refine block_r ?_; refine roundF_r ?_; refine block_r ?_)); rotate_left 1)); rotate_left 2; (focus (refine Sn rfl ?_; refine Sn rfl ?_; refine Sn rfl ?_; refine Sn rfl ?_; refine S_q rfl rfl rfl (Q_pick_f rfl rfl rfl) ?_; refine Sm rfl ?_; refine On ?_; refine cond_f rfl ?_; refine Wr ?_; refine Sm rfl ?_; refine S_q rfl rfl rfl (Q_not rfl rfl) ?_; refine Sm rfl ?_; refine S_gsplit rfl rfl rfl rfl (fun c8_12 => ?_) (fun c8_12 => ?_) <;> (first | (simp [*] at c8_12; done) | (try simp at c8_12)); refine S_gload rfl rfl rfl rfl rfl rfl rfl rfl ?_; refine L_agg (Rd.pers ‹_›) (ty rfl) (by first | rfl | assumption) ?_; refine S_gq rfl rfl rfl rfl rfl rfl (Q_move rfl rfl) ?_; refine S_gq rfl rfl rfl rfl rfl rfl (Q_fieldAddr rfl rfl (fld rfl rfl)) ?_; refine S_gload rfl rfl rfl rfl rfl rfl rfl rfl ?_; refine L_fld (Rd.own m1) (ty rfl) rfl ?_; refine S_gload rfl rfl rfl rfl rfl rfl rfl rfl ?_; refine L_agg (Rd.pers ‹_›) (ty rfl) (by first | rfl | assumption) ?_; refine S_gq rfl rfl rfl rfl rfl rfl (Q_fieldAddr rfl rfl (fld rfl rfl)) ?_; refine S_gload rfl rfl rfl rfl rfl rfl rfl rfl ?_; refine L_fld (Rd.own m1) (ty rfl) rfl ?_; refine S_gc rfl rfl rfl rfl rfl rfl (C_callv (carried_s ‹_›) rfl rfl ⟨_, _, rfl, ⟨_, _, rfl, ⟨_, _, rfl, ⟨_, _, rfl, ⟨_, _, rfl, rfl, rfl⟩, rfl⟩, rfl⟩, rfl⟩, rfl⟩ (cal rfl) ?_); refine S_q rfl rfl rfl (Q_pick_t rfl rfl rfl) ?_; refine Sm rfl ?_; refine On ?_; refine WP_cond rfl (fun c8_13 => ?_) (fun c8_13 => ?_) <;> (first | (simp [*] at c8_13; done) | (try simp at c8_13)); (focus (refine Wr ?_; refine Sm rfl ?_; refine Sf rfl rfl rfl rfl rfl (fld rfl rfl) ?_; refine S_load rfl rfl rfl rfl rfl ?_; refine L_fld (Rd.own m1) (ty rfl) rfl ?_; refine S_c rfl rfl rfl (C_buildSlice rfl (elm rfl) (zer rfl) rfl ⟨_, _, _, rfl, rfl, rfl, rfl, rfl, rfl⟩ rfl rfl ?_); intro b8_14; refine S_w rfl rfl rfl (W_app1 [_, _, _] _ ‹_› rfl rfl rfl rfl rfl rfl (elm rfl) (zer rfl) rfl rfl rfl rfl rfl (by (try simp only [lA]); omega) (by (try simp only [lA]); omega) ?_); rintro p8_15 q8_15 m8_15 o8_15; refine Sm rfl ?_; refine Sm rfl ?_; refine On ?_; refine WP_ret ?_; refine block_r ?_; refine block_r ?_; refine roundF_r ?_; refine block_r ?_)); rotate_left 1; (focus (refine Wr ?_; refine Sm rfl ?_; refine Sm rfl ?_; refine On ?_; refine WP_ret ?_; refine block_r ?_; refine block_r ?_; refine roundF_r ?_; refine block_r ?_)); rotate_left 1)); rotate_left 2)); rotate_left 4))
      · refine pret (.inl rfl) rfl ⟨_, _, rfl, ⟨_, _, rfl, rfl, rfl⟩, rfl⟩ ?_
        have hres : followOf vs mm id = ([], 11) := by rw [← hfo]; simp [*]
        rw [hres]; exact ⟨_, _, rfl, SLB.nil _ _ _ _ _ _⟩
      · obtain ⟨e, he⟩ := Option.isSome_iff_exists.1 c8_9
        have hid : e.id = id := by rw [he] at c8_10; exact Prod.ext c8_10.1 c8_10.2
        have hres : followOf vs mm id = followF vs id n st.owner (out ++ [m]) := by rw [← hfo]; simp [*]
        refine roundF_n (st.owner, out ++ [m], .slice p8_3 (out ++ [m]).length q8_3, m8_3) (by simp; omega) ⟨rfl, o8_3, ?_, ?_, ?_⟩ (by repeat' first | exact sR _ | exact sA _ _ | exact sN _ | apply s2 | apply s1) (by repeat' first | exact trivial | refine ⟨rfl, ?_⟩)
        · simp only; rw [List.nodup_append]; exact ⟨hnd, by simp, fun a ha b hb e => by simp at hb; subst hb; subst e; exact c8_1 ha⟩
        · simp only; intro x hx; rcases List.mem_append.1 hx with hx | hx
          · exact hvw x hx
          · simp at hx; subst hx; exact c7_1
        · simp only; rw [hres]; congr 1; simp; omega
      · obtain ⟨e, he⟩ := Option.isSome_iff_exists.1 c8_9
        have hid : ¬ e.id = id := fun e' => by rw [he] at c8_10; exact c8_10 (by rw [← e']; rfl) (by rw [← e']; rfl)
        have hres : followOf vs mm id = ([], 11) := by rw [← hfo]; simp [*]
        refine pret (.inl rfl) rfl ⟨_, _, rfl, ⟨_, _, rfl, rfl, rfl⟩, rfl⟩ ?_
        rw [hres]; exact ⟨_, _, rfl, SLB.nil _ _ _ _ _ _⟩
      · have hres : followOf vs mm id = (out ++ [m] ++ [st.owner], 0) := by rw [← hfo]; simp [*]
        refine pretKM [_, _, _] m8_15 _ rfl (.inl rfl) rfl ⟨_, _, rfl, ⟨_, _, rfl, rfl, rfl⟩, rfl⟩ fun h' hl' hm => ?_
        rw [hres]; exact ⟨_, _, rfl, o8_15.sl hl' IntC_mono hm (by simp; omega)⟩
      · refine pret (.inl rfl) rfl ⟨_, _, rfl, ⟨_, _, rfl, rfl, rfl⟩, rfl⟩ ?_
        have hres : followOf vs mm id = ([], 11) := by rw [← hfo]; simp [*]
        rw [hres]; exact ⟨_, _, rfl, SLB.nil _ _ _ _ _ _⟩
    · refine S_w rfl rfl rfl (W_callBv (M := M) [_] _ (fun h' hl' hm => containsInt_s (x := m) (hos.sl hl' IntC_mono hm (by omega))) rfl rfl ⟨_, _, rfl, ⟨_, _, rfl, rfl, rfl⟩, rfl⟩ (cal rfl) rfl ?_)
      (focus (refine Sm rfl ?_; refine On ?_; refine WP_cond rfl (fun c9_1 => ?_) (fun c9_1 => ?_) <;> (first | (simp [*] at c9_1; done) | (try simp at c9_1)); (focus (refine Wr ?_; refine Sm rfl ?_; refine Sm rfl ?_; refine On ?_; refine WP_ret ?_; refine block_r ?_; refine then_r ?_; refine block_r ?_; refine roundF_r ?_; refine block_r ?_)); rotate_left 1; (focus (refine WP_skip ?_; refine block_n ?_; refine then_n ?_; refine Wr ?_; refine Sm rfl ?_; refine Sm rfl ?_; refine S_c rfl rfl rfl (C_buildSlice rfl (elm rfl) (zer rfl) rfl ⟨_, _, _, rfl, rfl, rfl, rfl, rfl, rfl⟩ rfl rfl ?_); intro b9_2; refine S_w rfl rfl rfl (W_app1 [_] _ ‹_› rfl rfl rfl rfl rfl rfl (elm rfl) (zer rfl) rfl rfl rfl rfl rfl (by (try simp only [lA]); omega) (by (try simp only [lA]); omega) ?_); rintro p9_3 q9_3 m9_3 o9_3; refine Sm rfl ?_; refine On ?_; refine WP_seq ?_; refine Wr ?_; refine Sm rfl ?_; refine On ?_; refine WP_cond rfl (fun c9_4 => ?_) (fun c9_4 => ?_) <;> (first | (simp [*] at c9_4; done) | (try simp at c9_4)); refine Wr ?_; refine Sm rfl ?_; refine Sm rfl ?_; refine Sm rfl ?_; refine On ?_; refine WP_ret ?_; refine then_r ?_; refine block_r ?_; refine roundF_r ?_; refine block_r ?_)); rotate_left 1))
      · refine pret (.inl rfl) rfl ⟨_, _, rfl, ⟨_, _, rfl, rfl, rfl⟩, rfl⟩ ?_
        have hres : followOf vs mm id = ([], 11) := by rw [← hfo]; simp [*]
        rw [hres]; exact ⟨_, _, rfl, SLB.nil _ _ _ _ _ _⟩
      · have hres : followOf vs mm id = (out ++ [m], 0) := by rw [← hfo]; simp [*]
        refine pretKM [_] m9_3 _ rfl (.inl rfl) rfl ⟨_, _, rfl, ⟨_, _, rfl, rfl, rfl⟩, rfl⟩ fun h' hl' hm => ?_
        rw [hres]; exact ⟨_, _, rfl, o9_3.sl hl' IntC_mono hm (by simp; omega)⟩
end Go.Proofs.YtfhoecgiahpddaaGreat
/-
  CONTRACTS: the flights on their way, one after the other; a slice backwards.
-/
set_option linter.all false
namespace Go.Proofs.YtfhoecgiahpddaaGreat
open Go.Mesh Go.RowKit
set_option maxRecDepth 100000
set_option linter.unusedVariables false
set_option maxHeartbeats 4000000
attribute [local irreducible] WP OPS ANY ANYo LG LV FSpec PSpec QOP OPc OPw thenQ blockQ roundQ roundF retQ retM Rd At SLB OS cmpI orI cmpID namedB valB nodeB kindB validG valAux idxI findG zeroV viewOf vwAt idxOf recv flyB scionOf moveOf numberedOf idOf valueOf mget mput localB carriedB stubOf followF followOf
def flOf (vs : List View) (v : View) : List (View × Flight) := (v.flights.filter (flyB vs v)).map fun x => (v, x)
def flightsOf (vs : List View) : List (View × Flight) := vs.flatMap (flOf vs)
def FlEnc (h : Frag) (i : View × Flight) (vals : Array Value) : Prop := ∃ us ws, vals = [Value.agg us.toArray, .agg ws.toArray].toArray ∧ us.length = 13 ∧ ones us = true ∧ ViewC 4398046511104 h i.1 us ∧ ws.length = 41 ∧ ones ws = true ∧ FlightC 4398046511104 h i.2 ws
/-- what has come before the flight j of the view k -/
def flPre (vs : List View) (k j : Nat) (v : View) : List (View × Flight) := (vs.take k).flatMap (flOf vs) ++ ((v.flights.take j).filter (flyB vs v)).map fun x => (v, x)
theorem flPre_zero (vs : List View) (k : Nat) (v : View) : flPre vs k 0 v = (vs.take k).flatMap (flOf vs) := by simp [flPre]
theorem flPre_yes {vs : List View} {k j : Nat} {v : View} {x : Flight} (hx : v.flights[j]? = some x) (hf : flyB vs v x = true) : flPre vs k (j + 1) v = flPre vs k j v ++ [(v, x)] := by
  simp [flPre, List.take_add_one, hx, hf]
theorem flPre_no {vs : List View} {k j : Nat} {v : View} {x : Flight} (hx : v.flights[j]? = some x) (hf : flyB vs v x = false) : flPre vs k (j + 1) v = flPre vs k j v := by
  simp [flPre, List.take_add_one, hx, hf]
theorem flPre_end {vs : List View} {k : Nat} {v : View} (hv : vs[k]? = some v) : flPre vs k v.flights.length v = (vs.take (k + 1)).flatMap (flOf vs) := by
  simp [flPre, List.take_add_one, hv, flOf]
theorem flPre_prefix {vs : List View} {k j : Nat} {v : View} {x : Flight} (hv : vs[k]? = some v) (hx : v.flights[j]? = some x) (hf : flyB vs v x = true) : (flPre vs k j v ++ [(v, x)]) <+: flightsOf vs := by
  rw [← flPre_yes hx hf]
  refine ⟨((v.flights.drop (j + 1)).filter (flyB vs v)).map (fun x => (v, x)) ++ (vs.drop (k + 1)).flatMap (flOf vs), ?_⟩
  have h1 : flOf vs v = ((v.flights.take (j + 1)).filter (flyB vs v)).map (fun x => (v, x)) ++ ((v.flights.drop (j + 1)).filter (flyB vs v)).map (fun x => (v, x)) := by
    rw [← List.map_append, ← List.filter_append, List.take_append_drop, flOf]
  have h2 : flightsOf vs = (vs.take k).flatMap (flOf vs) ++ (flOf vs v ++ (vs.drop (k + 1)).flatMap (flOf vs)) := by
    have key : ∀ f : View → List (View × Flight), vs.flatMap f = (vs.take k).flatMap f ++ (f v ++ (vs.drop (k + 1)).flatMap f) := fun f => by
      conv => lhs; rw [← List.take_append_drop k vs, drop_get hv]
      simp
    exact key _
  rw [h2, h1, flPre]; simp
attribute [local irreducible] flOf flightsOf flPre
theorem flights1_s {h : Frag} {b : Nat} {cs : List Value} {vs : List View} (hb : At h b 0 cs) (hf : FleetC h vs cs) : Iter Tryz.prog 77 #[ptr b 0] h FlEnc (flightsOf vs) := by
  intro l J Jx h0 L0 hl hy hj
  replace hb := hb.up hl
  replace hf := hf.up hl
  obtain ⟨p, c, mb, ps, rfl, fv, fm, fq⟩ := hf
  have hf : FleetC h0 vs [.slice p vs.length c, .map (some mb)] := ⟨p, c, mb, ps, rfl, fv, fm, fq⟩
  clear fq fm
  have hvl := fv.le
  rw [show L0 = L0 ++ [] from (List.append_nil _).symm]
  refine spec_of (vs := [.func (.yield l) #[] #[], ptr b 0]) Tryz.func77 Tryz.ntmps77 rfl rfl rfl ?_
  (focus (refine Wr ?_; refine Sf rfl rfl rfl rfl rfl (fld rfl rfl) ?_; refine S_load rfl rfl rfl rfl rfl ?_; refine L_fld (Rd.pers ‹_›) (ty rfl) rfl ?_; refine S_q rfl rfl rfl (Q_len rfl rfl rfl rfl rfl rfl) ?_; refine Sm rfl ?_; refine On ?_; refine WP_block ?_))
  (refine WP_loopM (α := Nat × Hp) []  _ [9, 8, 0, 1] (fun (s : Nat × Hp) => vs.length - s.1) (fun (s : Nat × Hp) =>  s.2) (fun (s : Nat × Hp) => [(10, .int .i64 s.1)]) (fun hh (s : Nat × Hp) => le h0 hh ∧ s.1 ≤ vs.length ∧ J ((vs.take s.1).flatMap (flOf vs)) hh s.2) (0, L0) rfl ⟨_, _, rfl, ⟨_, _, rfl, ⟨_, _, rfl, ⟨_, _, rfl, rfl, rfl⟩, rfl⟩, rfl⟩, rfl⟩ (by repeat' first | exact trivial | refine ⟨rfl, ?_⟩) ?_ ?_)
  · exact ⟨le_refl _, Nat.zero_le _, hj⟩
  rintro h1 ⟨k, Lx⟩ - ⟨hl1, hk, hJ⟩
  simp only at hk hJ
  dsimp only
  (replace hb := hb.up hl1; replace fv := fv.up hl1; replace hf := hf.up hl1)
  by_cases hlt : k < vs.length
  · obtain ⟨v, ev⟩ := get_of hlt
    rw [← flPre_zero vs k v] at hJ
    (focus (refine Wr ?_; refine Sc rfl rfl rfl rfl rfl rfl rfl ?_; refine On ?_; refine WP_seq ?_; refine WP_cond rfl (fun c3_1 => ?_) (fun c3_1 => ?_) <;> (first | (simp [*] at c3_1; done) | (try simp at c3_1)); refine WP_skip ?_; refine then_n ?_; refine WP_seq ?_; refine WP_block ?_; refine Wr ?_; refine S_q rfl rfl rfl (Q_indexS ‹_› ‹_› rfl rfl rfl (elm rfl) rfl) ?_; refine S_load rfl rfl rfl rfl rfl ?_; refine L_elA ‹_› ‹_› (ty rfl) ?_; rintro _ _ _ ⟨xi3_2, xa3_2, po3_2, qo3_2, ps3_2, qs3_2, pc3_2, qc3_2, pn3_2, qn3_2, pm3_2, qm3_2, xw3_2, xv3_2, pf3_2, qf3_2, pr3_2, qr3_2, xe3_2, xf3_2, rfl, vo3_2, vs3_2, vc3_2, vn3_2, vm3_2, vf3_2, vr3_2⟩; refine S_c rfl rfl rfl (C_alloc rfl (zer rfl) ?_); intro b3_3; refine S_w0 rfl rfl (W_all rfl rfl rfl (ty rfl) u0 (by first | rfl | assumption) (by first | rfl | assumption) (by first | rfl | assumption | exact ones_sub ‹_› _ _) ?_); refine On ?_; refine Wr ?_; refine Sf rfl rfl rfl rfl rfl (fld rfl rfl) ?_; refine S_load rfl rfl rfl rfl rfl ?_; refine L_fld (Rd.own m0) (ty rfl) rfl ?_; refine S_q rfl rfl rfl (Q_len rfl rfl rfl rfl rfl rfl) ?_; refine Sm rfl ?_; refine On ?_; refine WP_block ?_))
    (refine WP_loopM (α := Nat × Hp) [_]  _ [16, 15, 4, 10, 9, 8, 0, 1] (fun (s : Nat × Hp) => v.flights.length - s.1) (fun (s : Nat × Hp) =>  s.2) (fun (s : Nat × Hp) => [(17, .int .i64 s.1)]) (fun hh (s : Nat × Hp) => le h1 hh ∧ s.1 ≤ v.flights.length ∧ J (flPre vs k s.1 v) hh s.2) (0, Lx) rfl ⟨_, _, rfl, ⟨_, _, rfl, ⟨_, _, rfl, ⟨_, _, rfl, ⟨_, _, rfl, ⟨_, _, rfl, ⟨_, _, rfl, ⟨_, _, rfl, rfl, rfl⟩, rfl⟩, rfl⟩, rfl⟩, rfl⟩, rfl⟩, rfl⟩, rfl⟩ (by repeat' first | exact trivial | refine ⟨rfl, ?_⟩) ?_ ?_)
    · exact ⟨le_refl _, Nat.zero_le _, hJ⟩
    have hfl := vf3_2.le
    clear hJ Lx
    rintro h2 ⟨j, Lx⟩ - ⟨hl2, hj2, hJ⟩
    simp only at hj2 hJ
    dsimp only
    (replace hb := hb.up hl2; replace fv := fv.up hl2; replace hf := hf.up hl2; replace vo3_2 := vo3_2.up hl2; replace vs3_2 := vs3_2.up hl2; replace vc3_2 := vc3_2.up hl2; replace vn3_2 := vn3_2.up hl2; replace vm3_2 := vm3_2.up hl2; replace vf3_2 := vf3_2.up hl2; replace vr3_2 := vr3_2.up hl2)
    by_cases hlt2 : j < v.flights.length
    · obtain ⟨x, ex⟩ := get_of hlt2
      (focus (refine Wr ?_; refine Sc rfl rfl rfl rfl rfl rfl rfl ?_; refine On ?_; refine WP_seq ?_; refine WP_cond rfl (fun c6_1 => ?_) (fun c6_1 => ?_) <;> (first | (simp [*] at c6_1; done) | (try simp at c6_1)); refine WP_skip ?_; refine then_n ?_; refine WP_seq ?_; refine WP_block ?_; refine Wr ?_; refine S_q rfl rfl rfl (Q_indexS ‹_› ‹_› rfl rfl rfl (elm rfl) rfl) ?_; refine S_load rfl rfl rfl rfl rfl ?_; refine L_elA ‹_› ‹_› (ty rfl) ?_; rintro _ _ _ ⟨xa6_2, xb6_2, xc6_2, xd6_2, xe6_2, pa6_2, qa6_2, pf6_2, qf6_2, pm6_2, qm6_2, xw6_2, y16_2, y26_2, y36_2, y46_2, y56_2, y66_2, y76_2, y86_2, y96_2, y106_2, y116_2, y126_2, y136_2, y146_2, y156_2, rfl, ha6_2, hf6_2, hm6_2⟩; refine S_c rfl rfl rfl (C_alloc rfl (zer rfl) ?_); intro b6_3; refine S_w0 rfl rfl (W_all rfl rfl rfl (ty rfl) u0 (by first | rfl | assumption) (by first | rfl | assumption) (by first | rfl | assumption | exact ones_sub ‹_› _ _) ?_); refine On ?_; refine Wr ?_; refine S_load rfl rfl rfl rfl rfl ?_; refine L_agg (Rd.pers ‹_›) (ty rfl) (by first | rfl | assumption) ?_; refine S_load rfl rfl rfl rfl rfl ?_; refine L_agg (Rd.own m1) (ty rfl) (by first | rfl | assumption) ?_; refine S_load rfl rfl rfl rfl rfl ?_; refine L_agg (Rd.own m0) (ty rfl) (by first | rfl | assumption) ?_; refine S_c rfl rfl rfl (C_callv (flying_s ‹_› ⟨by assumption, _, _, _, _, _, _, _, _, _, _, _, _, _, _, _, _, _, _, _, rfl, by assumption, by assumption, by assumption, by assumption, by assumption, by assumption, by assumption⟩ ⟨_, _, _, _, _, _, _, _, _, _, _, _, _, _, _, _, _, _, _, _, _, _, _, _, _, _, _, rfl, by assumption, by assumption, by assumption⟩) rfl rfl ⟨_, _, rfl, ⟨_, _, rfl, ⟨_, _, rfl, rfl, rfl⟩, rfl⟩, rfl⟩ (cal rfl) ?_); refine Sm rfl ?_; refine S_gsplit rfl rfl rfl rfl (fun c6_4 => ?_) (fun c6_4 => ?_) <;> (first | (simp [*] at c6_4; done) | (try simp at c6_4)); (focus (refine S_gq rfl rfl rfl rfl rfl rfl (Q_move rfl rfl) ?_; refine S_gload rfl rfl rfl rfl rfl rfl rfl rfl ?_; refine L_agg (Rd.own m1) (ty rfl) (by first | rfl | assumption) ?_; refine S_gload rfl rfl rfl rfl rfl rfl rfl rfl ?_; refine L_agg (Rd.own m0) (ty rfl) (by first | rfl | assumption) ?_)); rotate_left 1; (focus (refine Sn rfl ?_; refine Sn rfl ?_; refine Sn rfl ?_; refine Sn rfl ?_; refine Sn rfl ?_; refine S_q rfl rfl rfl (Q_pick_f rfl rfl rfl) ?_; refine On ?_; refine cond_f rfl ?_; refine WP_skip ?_; refine block_n ?_; refine then_n ?_; refine R_region ?_; refine S_q rfl rfl rfl (Q_add rfl rfl rfl (by omega)) ?_; refine Sm rfl ?_; refine OPS_nil ?_)); rotate_left 1))
      · refine S_gw rfl rfl rfl rfl rfl rfl (W_yield [_, _] _ (hy (flPre vs k j v) (v, x) _ h2 Lx (le_trans hl1 hl2) hJ (flPre_prefix ev ex c6_4) ⟨_, _, rfl, rfl, by assumption, ⟨xi3_2, _, _, _, _, _, _, _, _, _, _, _, _, _, _, _, _, _, _, _, rfl, vo3_2, vs3_2, vc3_2, vn3_2, vm3_2, vf3_2, vr3_2⟩, rfl, by assumption, ⟨_, _, _, _, _, _, _, _, _, _, _, _, _, _, _, _, _, _, _, _, _, _, _, _, _, _, _, rfl, by assumption, by assumption, by assumption⟩⟩) rfl rfl rfl ⟨_, _, rfl, ⟨_, _, rfl, rfl, rfl⟩, rfl⟩ rfl ?_)
        rintro h3 M' _ hl3 (⟨rfl, hJ'⟩ | ⟨rfl, hx'⟩)
        · (focus (refine S_gq rfl rfl rfl rfl rfl rfl (Q_not rfl rfl) ?_; refine S_q rfl rfl rfl (Q_pick_t rfl rfl rfl) ?_; refine On ?_; refine cond_f rfl ?_; refine WP_skip ?_; refine block_n ?_; refine then_n ?_; refine R_region ?_; refine S_q rfl rfl rfl (Q_add rfl rfl rfl (by omega)) ?_; refine Sm rfl ?_; refine OPS_nil ?_))
          exact roundF_n (j + 1, M') (by simp only; omega) ⟨le_trans hl2 hl3, by simp only; omega, by simp only; rw [flPre_yes ex c6_4]; exact hJ'⟩ (by repeat' first | exact sR _ | exact sA _ _ | exact sN _ | apply s2 | apply s1) (by repeat' first | exact trivial | refine ⟨rfl, ?_⟩)
        · (focus (refine S_gq rfl rfl rfl rfl rfl rfl (Q_not rfl rfl) ?_; refine S_q rfl rfl rfl (Q_pick_t rfl rfl rfl) ?_; refine On ?_; refine cond_t rfl ?_; refine WP_ret ?_; refine block_r ?_; refine then_r ?_; refine roundF_r ?_; refine block_r ?_; refine block_r ?_; refine then_r ?_; refine roundF_r ?_; refine block_r ?_))
          exact ret_q M' (.inl rfl) rfl rfl (by repeat' first | exact sR _ | exact sA _ _ | exact sN _ | apply s2 | apply s1) (.inr hx')
      · exact roundF_n (j + 1, Lx) (by simp only; omega) ⟨hl2, by simp only; omega, by simp only; rw [flPre_no ex c6_4]; exact hJ⟩ (by repeat' first | exact sR _ | exact sA _ _ | exact sN _ | apply s2 | apply s1) (by repeat' first | exact trivial | refine ⟨rfl, ?_⟩)
    · have hge : j = v.flights.length := by omega
      subst hge
      rw [flPre_end ev] at hJ
      (focus (refine Wr ?_; refine Sc rfl rfl rfl rfl rfl rfl rfl ?_; refine On ?_; refine WP_seq ?_; refine WP_cond rfl (fun c9_1 => ?_) (fun c9_1 => ?_) <;> (first | (simp [*] at c9_1; done) | (try simp at c9_1)); refine WP_exit ?_; refine then_e ?_; refine roundF_e ?_; refine block_e ?_; refine block_n ?_; refine then_n ?_; refine R_region ?_; refine S_q rfl rfl rfl (Q_add rfl rfl rfl (by omega)) ?_; refine Sm rfl ?_; refine OPS_nil ?_))
      exact roundF_n (k + 1, Lx) (by simp only; omega) ⟨le_trans hl1 hl2, by simp only; omega, hJ⟩ (by repeat' first | exact sR _ | exact sA _ _ | exact sN _ | apply s2 | apply s1) (by repeat' first | exact trivial | refine ⟨rfl, ?_⟩)
  · have hge : k = vs.length := by omega
    subst hge
    rw [List.take_length] at hJ
    (focus (refine Wr ?_; refine Sc rfl rfl rfl rfl rfl rfl rfl ?_; refine On ?_; refine WP_seq ?_; refine WP_cond rfl (fun c10_1 => ?_) (fun c10_1 => ?_) <;> (first | (simp [*] at c10_1; done) | (try simp at c10_1)); refine WP_exit ?_; refine then_e ?_; refine roundF_e ?_; refine block_e ?_))
    exact ret_q Lx (.inr rfl) rfl rfl (by simp) (.inl (by rw [flightsOf]; exact hJ))
theorem Iter.up {α : Type} {P : Program} {g : FuncId} {cap : Array Value} {h h' : Frag} {enc : Frag → α → Array Value → Prop} {items : List α} (x : Go.Mesh.Iter P g cap h enc items) (hl : le h h') : Go.Mesh.Iter P g cap h' enc items :=
  fun l J Jx h0 L0 hl' => x l J Jx h0 L0 (le_trans hl hl')
theorem flights_s {h : Frag} {cs : List Value} {vs : List View} (hf : FleetC h vs cs) : PSpec Tryz.prog 34 #[.agg cs.toArray] h (fun h' v => ∃ b, v = .func (.func 77) #[] #[ptr b 0] ∧ Go.Mesh.Iter Tryz.prog 77 #[ptr b 0] h' FlEnc (flightsOf vs)) := by
  refine pspec_of (vs := [.agg cs.toArray]) Tryz.func34 Tryz.ntmps34 rfl rfl ?_
  (focus (refine Wr ?_; refine S_c rfl rfl rfl (C_box rfl rfl ?_); intro b0_1; refine Sm rfl ?_; refine On ?_; refine Wr ?_; refine S_q rfl rfl rfl (Q_makeFunc rfl rfl ⟨_, _, rfl, rfl, rfl⟩) ?_; refine Sm rfl ?_; refine On ?_; refine WP_ret ?_))
  refine pretKM [] [_] _ rfl (.inl rfl) rfl ⟨_, _, rfl, rfl, rfl⟩ fun h' hl' hm => ⟨b0_1, rfl, ?_⟩
  exact flights1_s (at_of_keep hm) (hf.up hl')
def BkEnc (h : Frag) (n : Nd) (vals : Array Value) : Prop := ∃ i us, vals = [Value.int .i64 i, .agg us.toArray].toArray ∧ us.length = 5 ∧ ones us = true ∧ NodeC 4398046511104 h n us
theorem bk_prefix {α : Type} {xs : List α} {k : Nat} {x : α} (hx : xs[k]? = some x) : (xs.drop (k + 1)).reverse ++ [x] = (xs.drop k).reverse ∧ (xs.drop k).reverse <+: xs.reverse := by
  refine ⟨by rw [drop_get hx]; simp, (xs.take k).reverse, ?_⟩
  rw [← List.reverse_append, List.take_append_drop]
theorem backward1_s {h : Frag} {b : Nat} {a : Value} {xs : List Nd} (hb : At h b 0 [a]) (hs : SL h 5 (NodeC 4398046511104) a xs) : Go.Mesh.Iter Tryz.prog 120 #[ptr b 0] h BkEnc xs.reverse := by
  intro l J Jx h0 L0 hl hy hj
  (replace hb := hb.up hl; replace hs := hs.up hl)
  have hxl := hs.le
  rw [show L0 = L0 ++ [] from (List.append_nil _).symm]
  refine spec_of (vs := [.func (.yield l) #[] #[], ptr b 0]) Tryz.func120 Tryz.ntmps120 rfl rfl rfl ?_
  (focus (refine Wr ?_; refine S_load rfl rfl rfl rfl rfl ?_; refine L_one (Rd.pers ‹_›) (ty rfl) ?_; refine S_q rfl rfl rfl (Q_lenS rfl rfl rfl rfl rfl rfl ‹_›) ?_; refine S_q rfl rfl rfl (Q_sub rfl rfl rfl (by omega)) ?_; refine Sm rfl ?_; refine On ?_; refine WP_block ?_))
  (refine WP_loopM (α := Nat × Hp) []  _ [0, 1] (fun (s : Nat × Hp) => s.1) (fun (s : Nat × Hp) =>  s.2) (fun (s : Nat × Hp) => [(3, .int .i64 ((s.1 : Int) - 1))]) (fun hh (s : Nat × Hp) => le h0 hh ∧ s.1 ≤ xs.length ∧ J (xs.drop s.1).reverse hh s.2) (xs.length, L0) rfl ⟨_, _, rfl, ⟨_, _, rfl, rfl, rfl⟩, rfl⟩ (by repeat' first | exact trivial | refine ⟨rfl, ?_⟩) ?_ ?_)
  · exact ⟨le_refl _, Nat.le_refl _, by simpa using hj⟩
  rintro h1 ⟨k, Lx⟩ - ⟨hl1, hk, hJ⟩
  simp only at hk hJ
  dsimp only
  (replace hb := hb.up hl1; replace hs := hs.up hl1)
  by_cases hlt : 0 < k
  · obtain ⟨j, rfl⟩ : ∃ j, k = j + 1 := ⟨k - 1, by omega⟩
    obtain ⟨x, ex⟩ := get_of (xs := xs) (k := j) (by omega)
    obtain ⟨hp1, hp2⟩ := bk_prefix ex
    (focus (refine WP_seq ?_; refine Wr ?_; refine Sm rfl ?_; refine Sc rfl rfl rfl rfl rfl rfl rfl ?_; refine On ?_; refine WP_cond rfl (fun c4_1 => ?_) (fun c4_1 => ?_) <;> (first | (simp [*] at c4_1; done) | (try simp at c4_1)); refine WP_skip ?_; refine then_n ?_; refine WP_seq ?_; refine WP_block ?_; refine Wr ?_; refine Sm rfl ?_; refine Sm rfl ?_; refine S_load rfl rfl rfl rfl rfl ?_; refine L_one (Rd.pers ‹_›) (ty rfl) ?_; refine Sm rfl ?_; refine S_q rfl rfl rfl (Q_indexS ‹_› ‹_› rfl rfl rfl (elm rfl) (by omega)) ?_; refine S_load rfl rfl rfl rfl rfl ?_; refine L_elA ‹_› ‹_› (ty rfl) ?_; rintro _ _ _ ⟨pn4_2, qn4_2, rfl, fn4_2⟩))
    refine S_w rfl rfl rfl (W_yield [] _ (hy (xs.drop (j + 1)).reverse x _ h1 Lx hl1 hJ (by rw [hp1]; exact hp2) ⟨_, _, rfl, rfl, by assumption, _, _, rfl, fn4_2⟩) rfl rfl rfl ⟨_, _, rfl, ⟨_, _, rfl, rfl, rfl⟩, rfl⟩ rfl ?_)
    rintro h3 M' _ hl3 (⟨rfl, hJ'⟩ | ⟨rfl, hx'⟩)
    · (focus (refine S_q rfl rfl rfl (Q_not rfl rfl) ?_; refine On ?_; refine cond_f rfl ?_; refine WP_skip ?_; refine block_n ?_; refine then_n ?_; refine R_region ?_; refine Sm rfl ?_; refine S_q rfl rfl rfl (Q_sub rfl rfl rfl (by omega)) ?_; refine Sm rfl ?_; refine OPS_nil ?_))
      refine roundF_n (j, M') (by simp only; omega) ⟨le_trans hl1 hl3, by simp only; omega, by simp only; rw [← hp1]; exact hJ'⟩ (by repeat' first | exact sR _ | exact sA _ _ | exact sN _ | apply s2 | apply s1) ⟨?_, (by repeat' first | exact trivial | refine ⟨rfl, ?_⟩)⟩
      rw [show ((j : Int) - 1) = ((j + 1 : Nat) : Int) - 1 - 1 by omega]; rfl
    · (focus (refine S_q rfl rfl rfl (Q_not rfl rfl) ?_; refine On ?_; refine cond_t rfl ?_; refine WP_ret ?_; refine block_r ?_; refine then_r ?_; refine roundF_r ?_; refine block_r ?_))
      exact ret_q M' (.inl rfl) rfl rfl (by repeat' first | exact sR _ | exact sA _ _ | exact sN _ | apply s2 | apply s1) (.inr hx')
  · have hge : k = 0 := by omega
    subst hge
    (focus (refine WP_seq ?_; refine Wr ?_; refine Sm rfl ?_; refine Sc rfl rfl rfl rfl rfl rfl rfl ?_; refine On ?_; refine cond_f rfl ?_; refine WP_exit ?_; refine then_e ?_; refine roundF_e ?_; refine block_e ?_))
    exact ret_q Lx (.inr rfl) rfl rfl (by repeat' first | exact sR _ | exact sA _ _ | exact sN _ | apply s2 | apply s1) (.inl (by simpa using hJ))
theorem backward_s {h : Frag} {a : Value} {xs : List Nd} (hs : SL h 5 (NodeC 4398046511104) a xs) : PSpec Tryz.prog 82 #[a] h (fun h' v => ∃ b, v = .func (.func 120) #[] #[ptr b 0] ∧ Go.Mesh.Iter Tryz.prog 120 #[ptr b 0] h' BkEnc xs.reverse) := by
  obtain ⟨p, c, rfl⟩ := hs.slice
  refine pspec_of (vs := [.slice p xs.length c]) Tryz.func82 Tryz.ntmps82 rfl rfl ?_
  (focus (refine Wr ?_; refine S_c rfl rfl rfl (C_box1 rfl rfl rfl ?_); intro b0_1; refine Sm rfl ?_; refine On ?_; refine Wr ?_; refine S_q rfl rfl rfl (Q_makeFunc rfl rfl ⟨_, _, rfl, rfl, rfl⟩) ?_; refine Sm rfl ?_; refine On ?_; refine WP_ret ?_))
  refine pretKM [] [_] _ rfl (.inl rfl) rfl ⟨_, _, rfl, rfl, rfl⟩ fun h' hl' hm => ⟨b0_1, rfl, ?_⟩
  exact backward1_s (at_of_keep hm) (hs.up hl')
end Go.Proofs.YtfhoecgiahpddaaGreat
/-
  SLICES OF IDENTITIES THAT ARE WRITTEN IN PLACE: an owned block that holds a list of identities, read, written, cut and cleared.
-/
set_option linter.all false
namespace Go.Mesh
open Go.RowKit
set_option linter.unusedVariables false
def flatI (xs : List ID) : List Value := xs.flatMap idc
theorem flatI_length (xs : List ID) : (flatI xs).length = xs.length * 2 := by
  induction xs with
  | nil => rfl
  | cons x xs ih => simp only [flatI, List.flatMap_cons, List.length_append] at *; rw [ih]; simp [idc]; omega
theorem flatI_append (xs ys : List ID) : flatI (xs ++ ys) = flatI xs ++ flatI ys := by simp [flatI]
theorem flatI_take (xs : List ID) (j : Nat) : flatI (xs.take j) = (flatI xs).take (j * 2) := by
  induction xs generalizing j with
  | nil => simp [flatI]
  | cons x xs ih =>
    cases j with
    | zero => simp [flatI]
    | succ j =>
      have := ih j
      simp only [flatI, List.take_succ_cons, List.flatMap_cons] at *
      rw [this, show (j + 1) * 2 = j * 2 + 2 by omega]
      rfl
theorem flatI_drop (xs : List ID) (j : Nat) : flatI (xs.drop j) = (flatI xs).drop (j * 2) := by
  have h1 : flatI xs = flatI (xs.take j) ++ flatI (xs.drop j) := by rw [← flatI_append, List.take_append_drop]
  rw [flatI_take] at h1
  by_cases hj : j ≤ xs.length
  · have hl : ((flatI xs).take (j * 2)).length = j * 2 := by rw [List.length_take, flatI_length]; omega
    conv => rhs; rw [h1, List.drop_append, hl]
    simp
  · rw [List.drop_eq_nil_of_le (by omega), List.drop_eq_nil_of_le (by rw [flatI_length]; omega)]; rfl
theorem flatI_get {xs : List ID} {j : Nat} {x : ID} (hx : xs[j]? = some x) : (flatI xs).drop (j * 2) = idc x ++ flatI (xs.drop (j + 1)) := by
  obtain ⟨h1, h2⟩ := List.getElem?_eq_some_iff.1 hx
  rw [← flatI_drop, List.drop_eq_getElem_cons h1, h2]; rfl
theorem flatI_set {xs : List ID} {j : Nat} (y : ID) (hj : j < xs.length) (rest : List Value) : putAt (flatI xs ++ rest) (j * 2) (idc y) = flatI (xs.set j y) ++ rest := by
  have hl := flatI_length xs
  have hlen : (idc y).length = 2 := rfl
  rw [List.set_eq_take_append_cons_drop, if_pos hj, flatI_append, putAt, hlen, List.take_append_of_le_length (by omega), List.drop_append_of_le_length (by omega), flatI_take]
  have : flatI (y :: xs.drop (j + 1)) = idc y ++ flatI (xs.drop (j + 1)) := rfl
  rw [this, flatI_drop, show (j + 1) * 2 = j * 2 + 2 by omega]
  simp
theorem Flat_id {h : Frag} {xs : List ID} {us : List Value} : Flat h 2 IDC xs us ↔ us = flatI xs := by
  induction xs generalizing us with
  | nil => exact Iff.rfl
  | cons x xs ih =>
    constructor
    · rintro ⟨vs, ws, rfl, _, _, rfl, hf⟩
      rw [ih.1 hf]; rfl
    · rintro rfl
      exact ⟨idc x, flatI xs, rfl, rfl, rfl, rfl, ih.2 rfl⟩
theorem OS.parts {h : Frag} {v : Value} {xs : List ID} {M : Hp} (s : OS h 35 2 IDC v xs M) (h0 : 0 < xs.length) : ∃ b cap rest, v = .slice (some ⟨b, 0, none⟩) xs.length cap ∧ M = [(b, cells (flatI xs ++ rest) 35)] ∧ xs.length ≤ cap ∧ (flatI xs).length + rest.length = cap * 2 := by
  obtain ⟨us, ⟨hu, ⟨rfl, h1, _⟩ | ⟨b, cap, rest, rfl, rfl, h2, h3⟩⟩, f⟩ := s
  · omega
  · rw [Flat_id.1 f] at h2 ⊢
    exact ⟨b, cap, rest, rfl, rfl, h3, h2⟩
theorem OS.make {h : Frag} {b n cap : Nat} {xs : List ID} {rest : List Value} (hn : n = xs.length) (hc : xs.length ≤ cap) (hl : (flatI xs).length + rest.length = cap * 2) : OS h 35 2 IDC (.slice (some ⟨b, 0, none⟩) n cap) xs [(b, cells (flatI xs ++ rest) 35)] := by
  subst hn
  exact ⟨flatI xs, ⟨flatI_length xs, .inr ⟨b, cap, rest, rfl, rfl, hl, hc⟩⟩, Flat_id.2 rfl⟩
section
variable {P : Program} {r : Option Nat} {h : Frag} {L : Hp} {fr : Fr} {o : Oper} {K : OCont} {b j k e : Nat} {xs ys : List ID} {x y : ID} {rest : List Value}
theorem Rd_id (hm : (b, cells (flatI xs ++ rest) e) ∈ L) (hx : xs[j]? = some x) : Rd h L b (j * 2) (idc x) := by
  refine ⟨_, e, (0, 0), .inr hm, fun i v hv => ?_⟩
  have h1 := flatI_get hx
  have hlt : j * 2 < (flatI xs).length := by rw [flatI_length]; have := (List.getElem?_eq_some_iff.1 hx).1; omega
  have hi : i < 2 := (List.getElem?_eq_some_iff.1 hv).1
  have h2 : ((flatI xs).drop (j * 2))[i]? = some v := by rw [h1, List.getElem?_append_left (by exact hi)]; exact hv
  rw [List.getElem?_drop] at h2
  have h3 := (List.getElem?_eq_some_iff.1 h2).1
  simp only [List.getElem?_toArray]
  rw [List.getElem?_append_left h3]; exact h2
theorem L_id0 {t : TypeId} {KK : Value → Prop} (hm : (b, cells (flatI xs ++ rest) e) ∈ L) (hx : xs[j]? = some x) (ht : tyOf P t = some (true, 2)) (kk : KK (.agg (idc x).toArray)) : LG P h L b (0 + j * 2) t KK := by
  rw [Nat.zero_add]; exact L_agg (Rd_id hm hx) ht rfl kk
theorem L_id1 {t : TypeId} {KK : Value → Prop} (hm : (b, cells (flatI xs ++ rest) e) ∈ L) (hx : xs[k + j]? = some x) (ht : tyOf P t = some (true, 2)) (kk : KK (.agg (idc x).toArray)) : LG P h L b (0 + k * 2 + j * 2) t KK := by
  rw [show 0 + k * 2 + j * 2 = (k + j) * 2 by omega]; exact L_agg (Rd_id hm hx) ht rfl kk
theorem Q_indexX {t q by_ n cap off kk : Nat} {s ix : Operand} {qk : IntKind} {i : Int} (hx : xs[j]? = some x) (hop : o.op = .indexAddr t s ix) (hs : ev fr s = some (.slice (some ⟨b, off, none⟩) n cap)) (hi : ev fr ix = some (.int qk i)) (he : elemOf? P t = some (q, kk, by_)) (hj : i = (j : Int)) (hlt : j < n) : QOP P o fr h L (ptr b (off + j * kk)) :=
  Q_index hop hs hi he hj hlt
theorem W_id {t : TypeId} {p z : Operand} {L' : Hp} (hop : o.op = .store t p z) (hp : ev fr p = some (ptr b (0 + j * 2))) (hz : ev fr z = some (.agg (idc y).toArray)) (ht : tyOf P t = some (true, 2)) (hj : j < xs.length) (hu : Upd b (cells (flatI xs ++ rest) e) (cells (flatI (xs.set j y) ++ rest) e) L L') (kk : K h L' undef) : OPw P r o fr h L K := by
  refine W_put (v := .agg (idc y).toArray) (vs := idc y) (l := flatI xs ++ rest) (bt := e) hop hp hz rfl ht rfl rfl (L' := L') ?_ ?_ kk
  · rw [Nat.zero_add, flatI_set y hj]; exact hu
  · simp [flatI_length, idc]; omega
theorem W_clear {c : Call} {z : Operand} {t by_ n cap : Nat} {L' : Hp} (hop : o.op = .call c) (hc : c.callee = .builtin .clear) (ha : c.args = #[z]) (hat : c.argTypes = #[t]) (hz : ev fr z = some (.slice (some ⟨b, 0 + k * 2, none⟩) n cap)) (he : elemOf? P t = some (e, 2, by_)) (hzv : zvOf P e = some (.agg (idc (0, 0)).toArray)) (hn : k + n = xs.length)
    (hu : Upd b (cells (flatI xs ++ rest) e) (cells (flatI (xs.take k ++ List.replicate n (0, 0)) ++ rest) e) L L') (kk : K h L' (.tuple #[])) : OPw P r o fr h L K := by
  intro a hal w hw
  obtain ⟨hun, i0, hi, hk, _⟩ := elemOf?_spec he
  have hzero : (zeroValue e).run P w = .ok (.agg (idc (0, 0)).toArray) w := run_zeroValue hzv
  have hd : ∀ c', o.op ≠ .defer c' := fun c' => by rw [hop]; simp
  have hrep : (Builtin.zeroCells (Value.agg (idc (0, 0)).toArray).cells n).toList = flatI (List.replicate n (0, 0)) := by
    have : ∀ n : Nat, flatI (List.replicate n ((0, 0) : ID)) = List.replicate (n * 2) (.int .i64 0) := by
      intro n
      induction n with
      | zero => rfl
      | succ n ih =>
        rw [List.replicate_succ]
        have h1 : flatI ((0, 0) :: List.replicate n ((0, 0) : ID)) = idc (0, 0) ++ flatI (List.replicate n (0, 0)) := rfl
        rw [h1, ih, show (n + 1) * 2 = n * 2 + 1 + 1 by omega, List.replicate_succ, List.replicate_succ]; rfl
    rw [this]
    apply List.ext_getElem
    · simp [Builtin.zeroCells, Value.cells, idc]
    · intro i h1 h2
      simp [Builtin.zeroCells, Value.cells, idc]
      have : i % 2 = 0 ∨ i % 2 = 1 := by omega
      rcases this with h | h <;> simp [h]
  have hput : putAt (flatI xs ++ rest) (k * 2 + 0) (flatI (List.replicate n (0, 0))) = flatI (xs.take k ++ List.replicate n (0, 0)) ++ rest := by
    have hl := flatI_length xs
    have hl2 := flatI_length (List.replicate n ((0, 0) : ID))
    simp only [List.length_replicate] at hl2
    rw [putAt, hl2, flatI_append, List.take_append_of_le_length (by omega), List.drop_append_of_le_length (by omega), flatI_take]
    have hnil : (flatI xs).drop (k * 2 + 0 + n * 2) = [] := List.drop_eq_nil_of_le (by omega)
    rw [hnil]
    simp
  have hones : ∀ v ∈ flatI (List.replicate n ((0, 0) : ID)), v.oneCell' = true := by
    intro v hv
    simp only [flatI, List.mem_flatMap, List.mem_replicate] at hv
    obtain ⟨x, ⟨_, rfl⟩, hv⟩ := hv
    simp [idc] at hv; subst hv; rfl
  obtain ⟨w', hr, hb', hne, hsz, ho, htp, hpo, hdn⟩ := run_storeCells (P := P) (b := b) (t := e) (flatI (List.replicate n (0, 0))) 0 (k * 2) (flatI xs ++ rest) w (hw.sees.own _ hu.mem) (by
    have hl := flatI_length xs
    have hl2 := flatI_length (List.replicate n ((0, 0) : ID))
    simp only [List.length_replicate] at hl2
    simp only [List.length_append]; omega) hones
  rw [hput] at hb'
  have hx := Ext.set hw hu hb' hne hsz ho htp hpo hdn
  have hrun : (Builtin.clear_ #[t] o.type #[.slice (some ⟨b, k * 2, none⟩) n cap]).run P w = .ok (.tuple #[]) w' := by
    unfold Builtin.clear_
    cases n with
    | zero =>
      have : w' = w := by
        have : flatI (List.replicate 0 ((0, 0) : ID)) = [] := rfl
        rw [this] at hr
        simp only [storeCells, Sem.run_pure] at hr
        cases hr; rfl
      subst this
      simp [run_underlying' hun]
    | succ n =>
      simp only [Sem.run_bind]
      simp [run_underlying' hun, hzero, hrep, hr]
  refine wpIn_of_value hd (w' := w') (v := .tuple #[]) ?_ ⟨h, L', _, rfl, kk, hx⟩
  unfold execOp; rw [hop]
  simp [resolve, hc, ha, hat, invoke, builtin, hal z _ hz, hrun]
end
end Go.Mesh
/-
  THE KIT's CONTRACT OF slices.SortFunc LAID AT THIS TRANSLATION, twice (identities, nodes): plain text.
-/
set_option linter.all false
namespace Go.Proofs
open Go.Shelf
def Tryz.sortID_ren : Go.Shelf.Ren := ⟨fun | 6 => 84 | 15 => 119 | 14 => 121 | 28 => 139 | 29 => 140 | 20 => 141 | 21 => 142 | 22 => 143 | 23 => 144 | 24 => 145 | 25 => 146 | 26 => 147 | 27 => 148 | 46 => 158 | 47 => 154 | 48 => 155 | 49 => 159 | 50 => 160 | 57 => 162 | n => n, fun | 22 => 31 | 24 => 35 | 25 => 150 | 3 => 3 | 39 => 176 | 0 => 0 | 53 => 191 | 55 => 60 | 4 => 4 | 46 => 185 | 45 => 184 | 50 => 64 | 5 => 5 | 9 => 9 | 66 => 201 | 70 => 205 | 76 => 209 | 77 => 210 | n => n, fun | n => n⟩
theorem Tryz.sortID : Go.Proofs.SlLaysF0.n6 Tryz.prog Tryz.sortID_ren := {
  mixed := by kernel_rfl
  f6 := ⟨Tryz.f84.name, by decide, Tryz.func84.trans (congrArg some (by kernel_rfl))⟩
  f14 := ⟨Tryz.f121.name, by decide, Tryz.func121.trans (congrArg some (by kernel_rfl))⟩
  f15 := Tryz.func119.trans (congrArg some (by kernel_rfl))
  f20 := ⟨Tryz.f141.name, by decide, Tryz.func141.trans (congrArg some (by kernel_rfl))⟩
  f21 := ⟨Tryz.f142.name, by decide, Tryz.func142.trans (congrArg some (by kernel_rfl))⟩
  f22 := ⟨Tryz.f143.name, by decide, Tryz.func143.trans (congrArg some (by kernel_rfl))⟩
  f23 := ⟨Tryz.f144.name, by decide, Tryz.func144.trans (congrArg some (by kernel_rfl))⟩
  f24 := ⟨Tryz.f145.name, by decide, Tryz.func145.trans (congrArg some (by kernel_rfl))⟩
  f25 := ⟨Tryz.f146.name, by decide, Tryz.func146.trans (congrArg some (by kernel_rfl))⟩
  f26 := ⟨Tryz.f147.name, by decide, Tryz.func147.trans (congrArg some (by kernel_rfl))⟩
  f27 := ⟨Tryz.f148.name, by decide, Tryz.func148.trans (congrArg some (by kernel_rfl))⟩
  f28 := Tryz.func139.trans (congrArg some (by kernel_rfl))
  f29 := Tryz.func140.trans (congrArg some (by kernel_rfl))
  f46 := ⟨Tryz.f158.name, by decide, Tryz.func158.trans (congrArg some (by kernel_rfl))⟩
  f47 := Tryz.func154.trans (congrArg some (by kernel_rfl))
  f48 := Tryz.func155.trans (congrArg some (by kernel_rfl))
  f49 := ⟨Tryz.f159.name, by decide, Tryz.func159.trans (congrArg some (by kernel_rfl))⟩
  f50 := ⟨Tryz.f160.name, by decide, Tryz.func160.trans (congrArg some (by kernel_rfl))⟩
  f57 := ⟨Tryz.f162.name, by decide, Tryz.func162.trans (congrArg some (by kernel_rfl))⟩
  t0 := Tryz.underlying0
  a0 := Tryz.isAgg0
  z0 := Tryz.sizeOf0
  v0 := Tryz.zeroValue0
  t3 := Tryz.underlying3
  a3 := Tryz.isAgg3
  z3 := Tryz.sizeOf3
  v3 := Tryz.zeroValue3
  t4 := Tryz.underlying4
  a4 := Tryz.isAgg4
  z4 := Tryz.sizeOf4
  v4 := Tryz.zeroValue4
  t5 := Tryz.underlying5
  a5 := Tryz.isAgg5
  z5 := Tryz.sizeOf5
  v5 := Tryz.zeroValue5
  t9 := Tryz.underlying9
  a9 := Tryz.isAgg9
  z9 := Tryz.sizeOf9
  v9 := Tryz.zeroValue9
  t22 := Tryz.underlying31
  a22 := Tryz.isAgg31
  z22 := Tryz.sizeOf31
  v22 := Tryz.zeroValue31
  t25 := Tryz.underlying150
  a25 := Tryz.isAgg150
  z25 := Tryz.sizeOf150
  v25 := Tryz.zeroValue150
  t39 := Tryz.underlying176
  a39 := Tryz.isAgg176
  z39 := Tryz.sizeOf176
  v39 := Tryz.zeroValue176
  t45 := Tryz.underlying184
  a45 := Tryz.isAgg184
  z45 := Tryz.sizeOf184
  v45 := Tryz.zeroValue184
  t46 := Tryz.underlying185
  a46 := Tryz.isAgg185
  z46 := Tryz.sizeOf185
  v46 := Tryz.zeroValue185
  t50 := Tryz.underlying64
  a50 := Tryz.isAgg64
  z50 := Tryz.sizeOf64
  v50 := Tryz.zeroValue64
  t53 := Tryz.underlying191
  a53 := Tryz.isAgg191
  z53 := Tryz.sizeOf191
  v53 := Tryz.zeroValue191
  t55 := Tryz.underlying60
  a55 := Tryz.isAgg60
  z55 := Tryz.sizeOf60
  v55 := Tryz.zeroValue60
  t66 := Tryz.underlying201
  a66 := Tryz.isAgg201
  z66 := Tryz.sizeOf201
  v66 := Tryz.zeroValue201
  t70 := Tryz.underlying205
  a70 := Tryz.isAgg205
  z70 := Tryz.sizeOf205
  v70 := Tryz.zeroValue205
  t76 := Tryz.underlying209
  a76 := Tryz.isAgg209
  z76 := Tryz.sizeOf209
  v76 := Tryz.zeroValue209
  t77 := Tryz.underlying210
  a77 := Tryz.isAgg210
  z77 := Tryz.sizeOf210
  v77 := Tryz.zeroValue210 }

def Tryz.sortNd_ren : Go.Shelf.Ren := ⟨fun | 6 => 80 | 15 => 119 | 14 => 118 | 28 => 139 | 29 => 140 | 20 => 131 | 21 => 132 | 22 => 133 | 23 => 134 | 24 => 135 | 25 => 136 | 26 => 137 | 27 => 138 | 46 => 153 | 47 => 154 | 48 => 155 | 49 => 156 | 50 => 157 | 57 => 161 | n => n, fun | 22 => 25 | 24 => 38 | 25 => 145 | 3 => 3 | 39 => 176 | 0 => 0 | 53 => 191 | 55 => 60 | 4 => 4 | 46 => 185 | 45 => 184 | 50 => 64 | 5 => 5 | 9 => 9 | 66 => 201 | 70 => 205 | 76 => 209 | 77 => 210 | n => n, fun | n => n⟩
theorem Tryz.sortNd : Go.Proofs.SlLaysF0.n6 Tryz.prog Tryz.sortNd_ren := {
  mixed := by kernel_rfl
  f6 := ⟨Tryz.f80.name, by decide, Tryz.func80.trans (congrArg some (by kernel_rfl))⟩
  f14 := ⟨Tryz.f118.name, by decide, Tryz.func118.trans (congrArg some (by kernel_rfl))⟩
  f15 := Tryz.func119.trans (congrArg some (by kernel_rfl))
  f20 := ⟨Tryz.f131.name, by decide, Tryz.func131.trans (congrArg some (by kernel_rfl))⟩
  f21 := ⟨Tryz.f132.name, by decide, Tryz.func132.trans (congrArg some (by kernel_rfl))⟩
  f22 := ⟨Tryz.f133.name, by decide, Tryz.func133.trans (congrArg some (by kernel_rfl))⟩
  f23 := ⟨Tryz.f134.name, by decide, Tryz.func134.trans (congrArg some (by kernel_rfl))⟩
  f24 := ⟨Tryz.f135.name, by decide, Tryz.func135.trans (congrArg some (by kernel_rfl))⟩
  f25 := ⟨Tryz.f136.name, by decide, Tryz.func136.trans (congrArg some (by kernel_rfl))⟩
  f26 := ⟨Tryz.f137.name, by decide, Tryz.func137.trans (congrArg some (by kernel_rfl))⟩
  f27 := ⟨Tryz.f138.name, by decide, Tryz.func138.trans (congrArg some (by kernel_rfl))⟩
  f28 := Tryz.func139.trans (congrArg some (by kernel_rfl))
  f29 := Tryz.func140.trans (congrArg some (by kernel_rfl))
  f46 := ⟨Tryz.f153.name, by decide, Tryz.func153.trans (congrArg some (by kernel_rfl))⟩
  f47 := Tryz.func154.trans (congrArg some (by kernel_rfl))
  f48 := Tryz.func155.trans (congrArg some (by kernel_rfl))
  f49 := ⟨Tryz.f156.name, by decide, Tryz.func156.trans (congrArg some (by kernel_rfl))⟩
  f50 := ⟨Tryz.f157.name, by decide, Tryz.func157.trans (congrArg some (by kernel_rfl))⟩
  f57 := ⟨Tryz.f161.name, by decide, Tryz.func161.trans (congrArg some (by kernel_rfl))⟩
  t0 := Tryz.underlying0
  a0 := Tryz.isAgg0
  z0 := Tryz.sizeOf0
  v0 := Tryz.zeroValue0
  t3 := Tryz.underlying3
  a3 := Tryz.isAgg3
  z3 := Tryz.sizeOf3
  v3 := Tryz.zeroValue3
  t4 := Tryz.underlying4
  a4 := Tryz.isAgg4
  z4 := Tryz.sizeOf4
  v4 := Tryz.zeroValue4
  t5 := Tryz.underlying5
  a5 := Tryz.isAgg5
  z5 := Tryz.sizeOf5
  v5 := Tryz.zeroValue5
  t9 := Tryz.underlying9
  a9 := Tryz.isAgg9
  z9 := Tryz.sizeOf9
  v9 := Tryz.zeroValue9
  t22 := Tryz.underlying25
  a22 := Tryz.isAgg25
  z22 := Tryz.sizeOf25
  v22 := Tryz.zeroValue25
  t25 := Tryz.underlying145
  a25 := Tryz.isAgg145
  z25 := Tryz.sizeOf145
  v25 := Tryz.zeroValue145
  t39 := Tryz.underlying176
  a39 := Tryz.isAgg176
  z39 := Tryz.sizeOf176
  v39 := Tryz.zeroValue176
  t45 := Tryz.underlying184
  a45 := Tryz.isAgg184
  z45 := Tryz.sizeOf184
  v45 := Tryz.zeroValue184
  t46 := Tryz.underlying185
  a46 := Tryz.isAgg185
  z46 := Tryz.sizeOf185
  v46 := Tryz.zeroValue185
  t50 := Tryz.underlying64
  a50 := Tryz.isAgg64
  z50 := Tryz.sizeOf64
  v50 := Tryz.zeroValue64
  t53 := Tryz.underlying191
  a53 := Tryz.isAgg191
  z53 := Tryz.sizeOf191
  v53 := Tryz.zeroValue191
  t55 := Tryz.underlying60
  a55 := Tryz.isAgg60
  z55 := Tryz.sizeOf60
  v55 := Tryz.zeroValue60
  t66 := Tryz.underlying201
  a66 := Tryz.isAgg201
  z66 := Tryz.sizeOf201
  v66 := Tryz.zeroValue201
  t70 := Tryz.underlying205
  a70 := Tryz.isAgg205
  z70 := Tryz.sizeOf205
  v70 := Tryz.zeroValue205
  t76 := Tryz.underlying209
  a76 := Tryz.isAgg209
  z76 := Tryz.sizeOf209
  v76 := Tryz.zeroValue209
  t77 := Tryz.underlying210
  a77 := Tryz.isAgg210
  z77 := Tryz.sizeOf210
  v77 := Tryz.zeroValue210 }

end Go.Proofs
/-
  slices.SortFunc IN MY LOGIC, out of the kit's contract (Derived/Shelf/SlSortCmp/WholeK.lean): an owned row becomes a permutation of itself, sorted.
-/
set_option linter.all false
namespace Go.Mesh
open Go.Proofs Go.Shelf
set_option linter.unusedVariables false

theorem Ext.grown {h : Frag} {L : Hp} {w : World} (s : Holds h L w) (os : Array Obj) : Ext h L w h L (Go.Sort.grow w os) := by
  have hlt : ∀ b, b < w.heap.size → (Go.Sort.grow w os).heap[b]? = w.heap[b]? := fun b hb => by simp only [Go.Sort.grow]; rw [Array.getElem?_append_left hb]
  refine ⟨le_refl h, ⟨⟨fun b o e => ?_, fun p hp => ?_⟩, s.nodup, s.apart⟩, ?_, fun b hb _ => hlt b hb, fun b o e => .inl e, fun p hp => .inr (mem_ids hp), rfl, rfl, rfl, Nat.le_refl _⟩
  · rw [hlt b (s.pers_lt e)]; exact s.sees.pers b o e
  · rw [hlt _ (s.lt hp)]; exact s.sees.own p hp
  · simp [Go.Sort.grow]
theorem Ext.isGrow {h h' : Frag} {w w' : World} (x : Ext h [] w h' [] w') : ∃ q os', w' = Go.Sort.grow (w.drewN q) os' := by
  refine ⟨w'.drawn - w.drawn, w'.heap.extract w.heap.size w'.heap.size, ?_⟩
  have hd : w.drawn + (w'.drawn - w.drawn) = w'.drawn := by have := x.drawn; omega
  have hh : w.heap ++ w'.heap.extract w.heap.size w'.heap.size = w'.heap := by
    apply Array.ext_getElem?
    intro i
    rw [Array.getElem?_append]
    split
    · rename_i hlt; rw [x.frame i hlt (by simp [ids])]
    · rename_i hge
      rw [Array.getElem?_extract]
      have hs := x.size
      split
      · rename_i h2; congr 1; omega
      · rename_i h2; rw [Array.getElem?_eq_none (by omega)]
  have h1 := x.os; have h2 := x.tape; have h3 := x.output
  cases w' with
  | mk heap tape drawn os output =>
    simp only at hd hh h1 h2 h3
    simp only [Go.Sort.grow, World.drewN, hd, hh, h1, h2, h3]

section
variable {α : Type} [Inhabited α] {P : Program} {ρ : Ren} {enc : α → List Value} {k : Nat}
theorem flatMap_len (hk : ∀ x, (enc x).length = k) : ∀ d : List α, (d.flatMap enc).length = d.length * k
  | [] => by simp
  | x :: d => by simp only [List.flatMap_cons, List.length_append, hk, flatMap_len hk d, List.length_cons]; rw [Nat.add_mul]; omega
theorem flatMap_get (hk : ∀ x, (enc x).length = k) : ∀ (d : List α) (t : Nat), t < d.length * k → (d.flatMap enc)[t]? = some ((enc (d.toArray[t / k]!))[t % k]!)
  | [], t, h => by simp at h
  | x :: d, t, h => by
    have k0 : 0 < k := by rcases Nat.eq_zero_or_pos k with h0 | h0; · subst h0; simp at h
                          · exact h0
    rw [List.flatMap_cons]
    by_cases ht : t < k
    · rw [List.getElem?_append_left (by rw [hk]; exact ht), Nat.div_eq_of_lt ht, Nat.mod_eq_of_lt ht]
      have : t < (enc x).length := by rw [hk]; exact ht
      simp [this]
    · rw [List.getElem?_append_right (by rw [hk]; omega), hk, flatMap_get hk d (t - k) (by simp only [List.length_cons, Nat.add_mul] at h; omega)]
      obtain ⟨u, rfl⟩ : ∃ u, t = u + k := ⟨t - k, by omega⟩
      rw [Nat.add_sub_cancel, Nat.add_div_right _ k0, Nat.add_mod_right]
      simp
theorem flatK_eq (hk : ∀ x, (enc x).length = k) (d : List α) : Go.Sort.flatK enc k d.toArray = (d.flatMap enc).toArray := by
  apply Array.ext
  · simp [flatMap_len hk]
  · intro t h1 h2
    simp only [Go.Sort.size_flatK, List.size_toArray] at h1
    have h3 := flatMap_get hk d t h1
    have h4 := Go.Sort.get_flatK enc k d.toArray t (by simpa using h1)
    rw [getElem!_pos _ t (by simpa using h1)] at h4
    rw [h4]
    have h5 : t < (d.flatMap enc).length := by rw [flatMap_len hk]; exact h1
    rw [List.getElem?_eq_getElem h5] at h3
    simp only [List.getElem_toArray]
    exact (Option.some.inj h3).symm

theorem ext_sw (hk : ∀ x, (enc x).length = k) {h : Frag} {w : World} {b e : Nat} {d : List α} {rest : List Value} (hw : Holds h [(b, cells (d.flatMap enc ++ rest) e)] w) (m : Nat) (dk : List α) (os : Array Obj) (hs : dk.length = d.length) :
    Ext h [(b, cells (d.flatMap enc ++ rest) e)] w h [(b, cells (dk.flatMap enc ++ rest) e)] (sortWorldK enc k w b 0 m dk.toArray os) := by
  have hb := hw.sees.own (b, cells (d.flatMap enc ++ rest) e) (by simp)
  have hblk := hw.lt (p := (b, cells (d.flatMap enc ++ rest) e)) (by simp)
  have e1 : Ext h [(b, cells (d.flatMap enc ++ rest) e)] w h [(b, cells (d.flatMap enc ++ rest) e)] (Go.Sort.ahead w m) := Ext.same hw rfl rfl rfl rfl (Nat.le_add_right _ _)
  have hput : Go.Sort.putCells id 0 (Go.Sort.flatK enc k dk.toArray) (d.flatMap enc ++ rest).toArray = (dk.flatMap enc ++ rest).toArray := by
    rw [flatK_eq hk]
    have l1 := flatMap_len hk d
    have l2 := flatMap_len hk dk
    apply Array.ext
    · simp [Go.Sort.putCells, l1, l2, hs]
    · intro i h1 h2
      simp only [Go.Sort.putCells, Array.getElem_mapIdx]
      split
      · rename_i hi
        have hi2 : i < (dk.flatMap enc).length := by simpa using hi.2
        simp only [Nat.sub_zero, id]
        rw [getElem!_pos _ i (by simpa using hi2)]
        simp only [List.getElem_toArray]
        rw [List.getElem_append_left hi2]
      · rename_i hi
        have hi2 : (dk.flatMap enc).length ≤ i := by simp only [Nat.zero_le, true_and, Nat.zero_add, List.size_toArray, Nat.not_lt] at hi; exact hi
        simp only [List.getElem_toArray]
        rw [List.getElem_append_right hi2, List.getElem_append_right (by rw [l1, ← hs, ← l2]; exact hi2)]
        congr 1
        rw [l1, l2, hs]
  have e2 : Ext h [(b, cells (d.flatMap enc ++ rest) e)] (Go.Sort.ahead w m) h [(b, cells (dk.flatMap enc ++ rest) e)] (Go.Sort.putRowK enc k (Go.Sort.ahead w m) b 0 dk.toArray) := by
    refine Ext.set e1.holds (Upd.head _) ?_ ?_ ?_ rfl rfl rfl rfl
    · have hb' : (Go.Sort.ahead w m).heap[b]? = some (cells (d.flatMap enc ++ rest) e) := hb
      simp only [Go.Sort.putRowK, Go.Sort.putRow, Go.Sort.mapBlock, Array.getElem?_modify, if_true, hb', Option.map_some, Go.Sort.onCells, hput]
    · intro j hj
      simp only [Go.Sort.putRowK, Go.Sort.putRow, Go.Sort.mapBlock, Array.getElem?_modify]
      rw [if_neg (Ne.symm hj)]
    · simp [Go.Sort.putRowK, Go.Sort.putRow, Go.Sort.mapBlock]
  exact (e1.trans e2).trans (Ext.grown e2.holds os)

theorem enters_ok {g : Nat} (hg : callOk P g = true) (args : Array Value) (w : World) : (callFunc g args).run P w = .ok (.enter g args) w := by
  obtain ⟨fn, hfn, hn, hb⟩ := callOk_spec hg
  have hbn : fn.body.isNone = false := by
    cases hx : fn.body with
    | none => rw [hx] at hb; cases hb
    | some _ => rfl
  simp only [callFunc, Sem.run_bind, run_program, Result.andThen_ok, hfn]
  simp [hn, hbn]

/-- slices.SortFunc -/
theorem sort_spec (LL : SlLaysF0.n6 P ρ) (aE : ∀ w, (isAgg (ρ.t 24)).run P w = .ok true w) (zE : ∀ w, (Go.sizeOf (ρ.t 24)).run P w = .ok k w) (hk : ∀ x, (enc x).length = k) (h1 : ∀ x, ∀ v ∈ enc x, v.oneCell' = true) {cf : α → α → Int} (hO : Go.Sort.SWO (ltOf cf)) {g : Nat} (hg : callOk P g = true) {h : Frag}
    (hc : ∀ x y, PSpec P g #[.agg (enc x).toArray, .agg (enc y).toArray] h (fun _ u => u = .int .i64 (cf x y))) {b cap e : Nat} (d : List α) (rest : List Value) (hd : d.length < 4611686018427387904) :
    FSpec P (ρ.f 6) #[.slice (some ⟨b, 0, none⟩) d.length cap, .func (.func g) #[] #[]] h [(b, cells (d.flatMap enc ++ rest) e)]
      (fun h' L' v => h' = h ∧ v = .tuple #[] ∧ ∃ d' : List α, d'.Perm d ∧ d'.Pairwise (fun x y => ¬ cf y x < 0) ∧ L' = [(b, cells (d'.flatMap enc ++ rest) e)]) := by
  intro w hw
  have hb := hw.sees.own (b, cells (d.flatMap enc ++ rest) e) (by simp)
  have hblk := hw.lt (p := (b, cells (d.flatMap enc ++ rest) e)) (by simp)
  have hH : Go.Sort.HoldsK enc k w b 0 d.toArray := by
    intro j hj
    rw [flatK_eq hk] at hj ⊢
    have hj2 : j < (d.flatMap enc).length := by simpa using hj
    refine ⟨?_, ?_⟩
    · simp only [World.cell?, hb, Nat.zero_add]
      rw [getElem!_pos _ j hj]
      simp [List.getElem?_append_left hj2, hj2]
    · simp [World.frozen?, hb]
  have hcmp : CmpLays P g #[] enc k cf b 0 d.toArray.size w := by
    intro m os dk hsz x y
    have hx := ext_sw hk hw m dk.toList os (by simpa using hsz)
    simp only [Array.toArray_toList] at hx
    have hold : Holds h [] (sortWorldK enc k w b 0 m dk os) := hx.holds.drop (List.nil_sublist _)
    rw [Array.append_empty]
    refine Calls.mono (hc x y (sortWorldK enc k w b 0 m dk os) hold) fun e' w' ⟨v, h', L', he, ⟨hL', hv⟩, y'⟩ => ?_
    subst hL'; subst hv
    exact ⟨he, y'.isGrow⟩
  have hsort := AnyQ.slices_SortFunc LL k aE zE enc hk h1 cf hO g #[] b 0 cap d.toArray w (enters_ok hg) hcmp hH hblk (by simpa using hd)
  rw [List.size_toArray] at hsort
  refine Calls.mono hsort fun e' w' ⟨he, d', n, os, hp, hs, hw'⟩ => ?_
  have hsz : d'.size = d.length := by simpa using hp.1
  have hx := ext_sw hk hw n d'.toList os (by simpa using hsz)
  simp only [Array.toArray_toList] at hx
  subst hw'
  refine ⟨_, h, _, he, ⟨rfl, rfl, d'.toList, ?_, ?_, rfl⟩, hx⟩
  · have := hp.2.2
    have e1 : d'.extract 0 d.length = d' := by rw [← hsz]; simp
    have e2 : d.toArray.extract 0 d.length = d.toArray := by simp
    rw [e1, e2] at this
    simpa using this
  · rw [List.pairwise_iff_getElem]
    intro i j hi hj hij
    have := hs i j (Nat.zero_le _) hij (by simpa [hsz] using hj)
    simp only [Array.length_toList] at hi hj
    rw [getElem!_pos _ j hj, getElem!_pos _ i hi] at this
    simpa [ltOf] using this
end
end Go.Mesh
/-
  slices.SortFunc at no element, in my logic.
-/
set_option linter.all false
namespace Go.Mesh
open Go.Proofs Go.Shelf
theorem sort_none {P : Program} {ρ : Ren} (LL : SlLaysF0.n6 P ρ) (p : Option Addr) (c : Nat) (fv : Value) (h : Frag) (M : Hp) : FSpec P (ρ.f 6) #[.slice p 0 c, fv] h M (fun h' L' v => h' = h ∧ v = .tuple #[] ∧ L' = M) := by
  intro w hw
  refine (AnyF.slices_SortFunc_none LL p c fv w).mono fun e w' ⟨he, hw'⟩ => ?_
  subst hw'
  exact ⟨_, h, M, he, ⟨rfl, rfl, rfl⟩, Ext.refl hw⟩
end Go.Mesh
