/-
  CONTRACT: awake (refmeshlaw55): the example of the chapter.
-/
import Derived.Test.YtfhoecgiahpddaaGreatPb
set_option linter.all false
namespace Go.Proofs.YtfhoecgiahpddaaGreat
open Go.Mesh Go.RowKit
set_option maxRecDepth 100000
set_option linter.unusedVariables false
set_option maxHeartbeats 4000000
attribute [local irreducible] WP OPS ANY ANYo LG LV FSpec PSpec QOP OPc OPw thenQ blockQ roundQ roundF retQ retM Rd At SLB OS cmpI orI cmpID namedB valB nodeB kindB validG valAux idxI findG zeroV viewOf vwAt idxOf recv flyB scionOf moveOf numberedOf idOf valueOf mget mput localB carriedB stubOf followF followOf flOf flightsOf flPre setL minusL compactL putI mergeN insN insAll unionR NMap Coll retN bodyS GMap Dfs refsV refsOf reachL movedOf movedG graphParts graphR isMove flightIDs mailIDs viewIDs rawRoots rootsR reachR deadN viewObjs garbageOf garbageR objsL thereB oddB badNode lostF badStub safe1 safe2 safe3 safe4 safeR msgB sizesB smallV fewB
theorem ex_graph : graphR exV = ([exA, exB2, exC], 0) := by decide +kernel
theorem ex_roots : rootsR exV = [(1, 1)] := by decide +kernel
theorem ex_follow : followOf exV 1 (2, 1) = ([1, 2], 0) := by decide +kernel
theorem ex_reach : reachL [exA, exB2, exC] [(1, 1)] = [(1, 1), (2, 1)] := by
  refine SI_unique (SI_reachL _ _) (by unfold SI; decide +kernel) fun x => ?_
  rw [mem_reachL]
  have h1 : findG [exA, exB2, exC] (1, 1) = some exA := by decide +kernel
  have h2 : findG [exA, exB2, exC] (2, 1) = some exB2 := by decide +kernel
  have r1 : Reach [exA, exB2, exC] [(1, 1)] (1, 1) := .root (by simp) h1
  have r2 : Reach [exA, exB2, exC] [(1, 1)] (2, 1) := .step r1 h1 (by decide +kernel) h2
  constructor
  · intro h
    induction h with
    | root h1 _ => simp at h1; simp [h1]
    | step _ hm hx _ ih =>
      simp only [List.mem_cons, List.not_mem_nil, or_false] at ih
      rcases ih with rfl | rfl
      · rw [h1] at hm; cases hm
        have : refsOf exA = [(2, 1)] := by decide +kernel
        rw [this] at hx; simp at hx; simp [hx]
      · rw [h2] at hm; cases hm
        have : refsOf exB2 = [] := by decide +kernel
        rw [this] at hx; simp at hx
  · intro h
    simp only [List.mem_cons, List.not_mem_nil, or_false] at h
    rcases h with rfl | rfl
    · exact r1
    · exact r2
theorem ex_reachR : reachR exV = [(1, 1), (2, 1)] := by rw [reachR, ex_graph, ex_roots]; exact ex_reach
theorem ex_garbage : garbageR exV = 1 := by rw [garbageR, ex_reachR]; decide +kernel
theorem ex_safe : safeR exV = 0 := by rw [safeR, ex_graph, ex_roots, ex_reach]; decide +kernel
theorem ex_small : Small exV where
  len := by decide
  objs := by decide
  stubs := by decide
  scions := by decide
  names := by decide
  mail := by decide
  flights := by decide
  received := by decide
  fields := by decide
  args := by decide
  letter := by decide
  moved := by decide
  pmail := by decide
  pargs := by decide
theorem awake_s {h : Frag} : PSpec Tryz.prog 9 #[] h (fun _ v => v = .bool true) := by
  have hsm := ex_small
  have hlen := hsm.len
  have hr := ex_reachR
  refine pspec_of (vs := []) Tryz.func9 Tryz.ntmps9 rfl rfl ?_
  (focus (refine WP_seq ?_; refine R_region ?_; refine S_q rfl rfl rfl (Q_assign rfl rfl) ?_; refine OPS_nil ?_; refine then_n ?_; refine WP_seq ?_; refine R_region ?_; refine S_c rfl rfl rfl (C_call (example_s) rfl rfl rfl (cal rfl) ?_); rintro h0_1 _ l0_1 ⟨pe0_1, qe0_1, rfl, fe0_1⟩; refine S_q rfl rfl rfl (Q_assign rfl rfl) ?_; refine OPS_nil ?_; refine then_n ?_; refine WP_seq ?_; refine R_region ?_; refine S_q rfl rfl rfl (Q_move rfl rfl) ?_; refine S_q rfl rfl rfl (Q_build rfl (by decide +kernel) (zer rfl) ⟨_, _, _, _, _, _, _, rfl, fld rfl rfl, ty rfl, rfl, rfl, ⟨_, _, _, _, _, _, _, rfl, fld rfl rfl, ty rfl, rfl, rfl, rfl, rfl⟩, rfl⟩ rfl) ?_; refine S_c rfl rfl rfl (C_call (follow_s (id := (_, _)) (by assumption) (by omega)) rfl rfl ⟨_, _, rfl, ⟨_, _, rfl, ⟨_, _, rfl, rfl, rfl⟩, rfl⟩, rfl⟩ (cal rfl) ?_); rintro h0_2 _ l0_2 ⟨p0_2, q0_2, rfl, f0_2⟩; replace fe0_1 := fe0_1.up l0_2; refine S_q rfl rfl rfl (Q_move rfl rfl) ?_; refine S_q rfl rfl rfl (Q_extract rfl rfl rfl) ?_; refine S_q rfl rfl rfl (Q_extract rfl rfl rfl) ?_; refine S_q rfl rfl rfl (Q_assign rfl rfl) ?_; refine S_q rfl rfl rfl (Q_assign rfl rfl) ?_; refine OPS_nil ?_; refine then_n ?_; refine WP_seq ?_; refine R_region ?_; refine S_q rfl rfl rfl (Q_move rfl rfl) ?_; refine S_c rfl rfl rfl (C_call (graph_s (by assumption) (by assumption)) rfl rfl ⟨_, _, rfl, rfl, rfl⟩ (cal rfl) ?_); rintro h0_3 _ l0_3 ⟨_, rfl, pg0_3, qg0_3, rfl, fg0_3⟩; replace f0_2 := f0_2.up l0_3; replace fe0_1 := fe0_1.up l0_3; refine S_q rfl rfl rfl (Q_move rfl rfl) ?_; refine S_q rfl rfl rfl (Q_extract rfl rfl rfl) ?_; refine S_q rfl rfl rfl (Q_extract rfl rfl rfl) ?_; refine S_c rfl rfl rfl (C_alloc rfl (zer rfl) ?_); intro b0_4; refine S_w0 rfl rfl (W_all rfl rfl rfl (ty rfl) u0 (by first | rfl | assumption) (by first | rfl | assumption) (by first | rfl | assumption | exact ones_sub (by assumption) _ _) ?_); refine S_q rfl rfl rfl (Q_assign rfl rfl) ?_; refine OPS_nil ?_; refine then_n ?_; refine WP_seq ?_; refine R_region ?_; refine S_q rfl rfl rfl (Q_move rfl rfl) ?_; refine S_q rfl rfl rfl (Q_cmp rfl rfl rfl rfl) ?_; refine S_q rfl rfl rfl (Q_move rfl rfl) ?_; refine S_gsplit rfl rfl rfl rfl (fun c0_5 => ?_) (fun c0_5 => ?_) <;> (first | (simp [*] at c0_5; done) | (try simp at c0_5)); (focus (refine S_gq rfl rfl rfl rfl rfl rfl (Q_move rfl rfl) ?_; refine S_gc rfl rfl rfl rfl rfl rfl (C_buildSlice rfl (elm rfl) (zer rfl) rfl ⟨_, _, _, rfl, rfl, rfl, rfl, ⟨_, _, _, rfl, rfl, rfl, rfl, rfl, rfl⟩, rfl⟩ rfl rfl ?_); intro b0_6)); rotate_left 1; (focus (refine S_gn rfl rfl rfl rfl rfl rfl ?_; refine S_gn rfl rfl rfl rfl rfl rfl ?_; refine S_gn rfl rfl rfl rfl rfl rfl ?_; refine S_q rfl rfl rfl (Q_pick_f rfl rfl rfl) ?_; refine S_q rfl rfl rfl (Q_move rfl rfl) ?_; refine S_gn rfl rfl rfl rfl rfl rfl ?_; refine S_gn rfl rfl rfl rfl rfl rfl ?_; refine S_gn rfl rfl rfl rfl rfl rfl ?_; refine S_gn rfl rfl rfl rfl rfl rfl ?_; refine S_q rfl rfl rfl (Q_pick_f rfl rfl rfl) ?_; refine S_q rfl rfl rfl (Q_move rfl rfl) ?_; refine S_gn rfl rfl rfl rfl rfl rfl ?_; refine S_gn rfl rfl rfl rfl rfl rfl ?_; refine S_gn rfl rfl rfl rfl rfl rfl ?_; refine S_q rfl rfl rfl (Q_pick_f rfl rfl rfl) ?_; refine S_q rfl rfl rfl (Q_move rfl rfl) ?_; refine S_gn rfl rfl rfl rfl rfl rfl ?_; refine S_gn rfl rfl rfl rfl rfl rfl ?_; refine S_q rfl rfl rfl (Q_pick_f rfl rfl rfl) ?_; refine S_q rfl rfl rfl (Q_move rfl rfl) ?_; refine S_gn rfl rfl rfl rfl rfl rfl ?_; refine S_gn rfl rfl rfl rfl rfl rfl ?_; refine S_gn rfl rfl rfl rfl rfl rfl ?_; refine S_gn rfl rfl rfl rfl rfl rfl ?_; refine S_q rfl rfl rfl (Q_pick_f rfl rfl rfl) ?_; refine S_q rfl rfl rfl (Q_move rfl rfl) ?_; refine S_gn rfl rfl rfl rfl rfl rfl ?_; refine S_gn rfl rfl rfl rfl rfl rfl ?_; refine S_gn rfl rfl rfl rfl rfl rfl ?_; refine S_q rfl rfl rfl (Q_pick_f rfl rfl rfl) ?_; refine S_q rfl rfl rfl (Q_assign rfl rfl) ?_; refine OPS_nil ?_; refine then_n ?_; refine WP_ret ?_)); rotate_left 1))
  · (focus (refine OPS_keepM [] [_] _ rfl ?_; rintro h1_k l1_k k1_k; have a1_k := at_of_keep k1_k; clear k1_k; replace fg0_3 := fg0_3.up l1_k; replace f0_2 := f0_2.up l1_k; replace fe0_1 := fe0_1.up l1_k))
    have hy : SL h1_k 1 IntC (.slice (some ⟨b0_6, 0, none⟩) 2 2) [1, 2] := slb_of_at a1_k (Flat.append (Flat.one rfl rfl rfl) (Flat.one rfl rfl rfl)) (by decide)
    refine S_gc rfl rfl rfl rfl rfl rfl (C_callv (ints_s f0_2 hy) rfl rfl ⟨_, _, rfl, ⟨_, _, rfl, rfl, rfl⟩, rfl⟩ (cal rfl) ?_)
    (focus (refine S_q rfl rfl rfl (Q_pick_t rfl rfl rfl) ?_; refine S_q rfl rfl rfl (Q_move rfl rfl) ?_; refine S_gsplit rfl rfl rfl rfl (fun c2_1 => ?_) (fun c2_1 => ?_) <;> (first | (simp [*] at c2_1; done) | (try simp at c2_1)); (focus (refine S_gq rfl rfl rfl rfl rfl rfl (Q_move rfl rfl) ?_; refine S_gc rfl rfl rfl rfl rfl rfl (C_call (reachable_s (by assumption) (by assumption)) rfl rfl ⟨_, _, rfl, rfl, rfl⟩ (cal rfl) ?_); rintro h2_2 _ l2_2 ⟨p2_2, q2_2, rfl, f2_2⟩; replace a1_k := a1_k.up l2_2; replace fg0_3 := fg0_3.up l2_2; replace f0_2 := f0_2.up l2_2; replace fe0_1 := fe0_1.up l2_2; replace hy := hy.up l2_2; refine S_gq rfl rfl rfl rfl rfl rfl (Q_len rfl rfl rfl rfl rfl rfl) ?_; refine S_gq rfl rfl rfl rfl rfl rfl (Q_cmp rfl rfl rfl rfl) ?_; refine S_q rfl rfl rfl (Q_pick_t rfl rfl rfl) ?_; refine S_q rfl rfl rfl (Q_move rfl rfl) ?_; refine S_gsplit rfl rfl rfl rfl (fun c2_3 => ?_) (fun c2_3 => ?_) <;> (first | (simp [*] at c2_3; done) | (try simp at c2_3)); refine S_gq rfl rfl rfl rfl rfl rfl (Q_move rfl rfl) ?_; refine S_gc rfl rfl rfl rfl rfl rfl (C_callv (garbage_s (by assumption) (by assumption)) rfl rfl ⟨_, _, rfl, rfl, rfl⟩ (cal rfl) ?_); refine S_gq rfl rfl rfl rfl rfl rfl (Q_cmp rfl rfl rfl rfl) ?_; refine S_q rfl rfl rfl (Q_pick_t rfl rfl rfl) ?_; refine S_q rfl rfl rfl (Q_move rfl rfl) ?_; refine S_gsplit rfl rfl rfl rfl (fun c2_4 => ?_) (fun c2_4 => ?_) <;> (first | (simp [*] at c2_4; done) | (try simp at c2_4)); (focus (refine S_gq rfl rfl rfl rfl rfl rfl (Q_move rfl rfl) ?_; refine S_gq rfl rfl rfl rfl rfl rfl (Q_cmp rfl rfl rfl rfl) ?_; refine S_q rfl rfl rfl (Q_pick_t rfl rfl rfl) ?_; refine S_q rfl rfl rfl (Q_move rfl rfl) ?_; refine S_gsplit rfl rfl rfl rfl (fun c2_5 => ?_) (fun c2_5 => ?_) <;> (first | (simp [*] at c2_5; done) | (try simp at c2_5)); (focus (refine S_gq rfl rfl rfl rfl rfl rfl (Q_fieldAddr rfl rfl (fld rfl rfl)) ?_; refine S_gload rfl rfl rfl rfl rfl rfl rfl rfl ?_; refine L_one (Rd.own m0) (ty rfl) ?_; refine S_gq rfl rfl rfl rfl rfl rfl (Q_len rfl rfl rfl rfl rfl rfl) ?_; refine S_gq rfl rfl rfl rfl rfl rfl (Q_cmp rfl rfl rfl rfl) ?_; refine S_q rfl rfl rfl (Q_pick_t rfl rfl rfl) ?_; refine S_q rfl rfl rfl (Q_move rfl rfl) ?_; refine S_gsplit rfl rfl rfl rfl (fun c2_6 => ?_) (fun c2_6 => ?_) <;> (first | (simp [*] at c2_6; done) | (try simp at c2_6)); (focus (refine S_gq rfl rfl rfl rfl rfl rfl (Q_move rfl rfl) ?_; refine S_gc rfl rfl rfl rfl rfl rfl (C_callv (safe_s (by assumption) (by assumption)) rfl rfl ⟨_, _, rfl, rfl, rfl⟩ (cal rfl) ?_); refine S_gq rfl rfl rfl rfl rfl rfl (Q_cmp rfl rfl rfl rfl) ?_; refine S_q rfl rfl rfl (Q_pick_t rfl rfl rfl) ?_; refine S_q rfl rfl rfl (Q_assign rfl rfl) ?_; refine OPS_nil ?_; refine then_n ?_; refine WP_ret ?_)); rotate_left 1; (focus (refine S_gn rfl rfl rfl rfl rfl rfl ?_; refine S_gn rfl rfl rfl rfl rfl rfl ?_; refine S_gn rfl rfl rfl rfl rfl rfl ?_; refine S_q rfl rfl rfl (Q_pick_f rfl rfl rfl) ?_; refine S_q rfl rfl rfl (Q_assign rfl rfl) ?_; refine OPS_nil ?_; refine then_n ?_; refine WP_ret ?_)); rotate_left 1)); rotate_left 2; (focus (refine S_gn rfl rfl rfl rfl rfl rfl ?_; refine S_gn rfl rfl rfl rfl rfl rfl ?_; refine S_gn rfl rfl rfl rfl rfl rfl ?_; refine S_gn rfl rfl rfl rfl rfl rfl ?_; refine S_q rfl rfl rfl (Q_pick_f rfl rfl rfl) ?_; refine S_q rfl rfl rfl (Q_move rfl rfl) ?_; refine S_gn rfl rfl rfl rfl rfl rfl ?_; refine S_gn rfl rfl rfl rfl rfl rfl ?_; refine S_gn rfl rfl rfl rfl rfl rfl ?_; refine S_q rfl rfl rfl (Q_pick_f rfl rfl rfl) ?_; refine S_q rfl rfl rfl (Q_assign rfl rfl) ?_; refine OPS_nil ?_; refine then_n ?_; refine WP_ret ?_)); rotate_left 1)); rotate_left 3; (focus (refine S_gn rfl rfl rfl rfl rfl rfl ?_; refine S_gn rfl rfl rfl rfl rfl rfl ?_; refine S_q rfl rfl rfl (Q_pick_f rfl rfl rfl) ?_; refine S_q rfl rfl rfl (Q_move rfl rfl) ?_; refine S_gn rfl rfl rfl rfl rfl rfl ?_; refine S_gn rfl rfl rfl rfl rfl rfl ?_; refine S_gn rfl rfl rfl rfl rfl rfl ?_; refine S_gn rfl rfl rfl rfl rfl rfl ?_; refine S_q rfl rfl rfl (Q_pick_f rfl rfl rfl) ?_; refine S_q rfl rfl rfl (Q_move rfl rfl) ?_; refine S_gn rfl rfl rfl rfl rfl rfl ?_; refine S_gn rfl rfl rfl rfl rfl rfl ?_; refine S_gn rfl rfl rfl rfl rfl rfl ?_; refine S_q rfl rfl rfl (Q_pick_f rfl rfl rfl) ?_; refine S_q rfl rfl rfl (Q_assign rfl rfl) ?_; refine OPS_nil ?_; refine then_n ?_; refine WP_ret ?_)); rotate_left 1)); rotate_left 4; (focus (refine S_gn rfl rfl rfl rfl rfl rfl ?_; refine S_gn rfl rfl rfl rfl rfl rfl ?_; refine S_gn rfl rfl rfl rfl rfl rfl ?_; refine S_gn rfl rfl rfl rfl rfl rfl ?_; refine S_q rfl rfl rfl (Q_pick_f rfl rfl rfl) ?_; refine S_q rfl rfl rfl (Q_move rfl rfl) ?_; refine S_gn rfl rfl rfl rfl rfl rfl ?_; refine S_gn rfl rfl rfl rfl rfl rfl ?_; refine S_gn rfl rfl rfl rfl rfl rfl ?_; refine S_q rfl rfl rfl (Q_pick_f rfl rfl rfl) ?_; refine S_q rfl rfl rfl (Q_move rfl rfl) ?_; refine S_gn rfl rfl rfl rfl rfl rfl ?_; refine S_gn rfl rfl rfl rfl rfl rfl ?_; refine S_q rfl rfl rfl (Q_pick_f rfl rfl rfl) ?_; refine S_q rfl rfl rfl (Q_move rfl rfl) ?_; refine S_gn rfl rfl rfl rfl rfl rfl ?_; refine S_gn rfl rfl rfl rfl rfl rfl ?_; refine S_gn rfl rfl rfl rfl rfl rfl ?_; refine S_gn rfl rfl rfl rfl rfl rfl ?_; refine S_q rfl rfl rfl (Q_pick_f rfl rfl rfl) ?_; refine S_q rfl rfl rfl (Q_move rfl rfl) ?_; refine S_gn rfl rfl rfl rfl rfl rfl ?_; refine S_gn rfl rfl rfl rfl rfl rfl ?_; refine S_gn rfl rfl rfl rfl rfl rfl ?_; refine S_q rfl rfl rfl (Q_pick_f rfl rfl rfl) ?_; refine S_q rfl rfl rfl (Q_assign rfl rfl) ?_; refine OPS_nil ?_; refine then_n ?_; refine WP_ret ?_)); rotate_left 1))
    · refine pret (.inl rfl) rfl ⟨_, _, rfl, rfl, rfl⟩ ?_
      simp only [resOf]; rw [ex_safe]; rfl
    · exact absurd (by rw [ex_graph]; rfl) c2_6
    · exact absurd (by rw [ex_graph]) c2_5
    · exact absurd (by rw [ex_garbage]; rfl) c2_4
    · exact absurd (by rw [ex_follow]) c2_1
  · exact absurd (by rw [ex_follow]) c0_5
end Go.Proofs.YtfhoecgiahpddaaGreat
