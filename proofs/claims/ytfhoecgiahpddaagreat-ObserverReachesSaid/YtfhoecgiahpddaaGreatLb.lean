/-
  THE LAW ObserverReaches returns true.
-/
import Derived.Test.YtfhoecgiahpddaaGreatLa
set_option linter.all false
namespace Go.Proofs.YtfhoecgiahpddaaGreat
open Go.Mesh Go.RowKit
set_option maxRecDepth 100000
set_option linter.unusedVariables false
set_option maxHeartbeats 4000000
attribute [local irreducible] WP OPS ANY ANYo LG LV FSpec PSpec QOP OPc OPw thenQ blockQ roundQ roundF retQ retM Rd At SLB OS cmpI orI cmpID namedB valB nodeB kindB validG valAux idxI findG zeroV viewOf vwAt idxOf recv flyB scionOf moveOf numberedOf idOf valueOf mget mput localB carriedB stubOf followF followOf flOf flightsOf flPre setL minusL compactL putI mergeN insN insAll unionR NMap Coll retN bodyS GMap Dfs refsV refsOf reachL movedOf movedG graphParts graphR isMove flightIDs mailIDs viewIDs rawRoots rootsR reachR deadN viewObjs garbageOf garbageR objsL thereB oddB badNode lostF badStub safe1 safe2 safe3 safe4 safeR msgB sizesB smallV fewB BMap Seen
/-- what must be reached: the roots, and what the first j of live refer to -/
def mustL (g : List Nd) (roots live : List ID) : List ID := roots ++ live.flatMap fun id => refsOf ((findG g id).getD zeroN)
/-- what the first j fields of a node refer to -/
def refsTo (n : Nd) (j : Nat) : List ID := if n.kind = 2 then [] else refsV (n.fields.take j)
theorem refsTo_0 (n : Nd) : refsTo n 0 = [] := by rw [refsTo, List.take_zero, refsV_nil]; split <;> rfl
theorem refsTo_all (n : Nd) : refsTo n n.fields.length = refsOf n := by
  rw [refsTo, List.take_length]
  by_cases h : n.kind = 2
  · rw [if_pos h, refsOf_weak h]
  · rw [if_neg h, refsOf_plain h]
theorem refsTo_skip {n : Nd} {j : Nat} {x : Val} (hx : n.fields[j]? = some x) (h : n.kind = 2 ∨ ¬ x.1 = 2) : refsTo n (j + 1) = refsTo n j := by
  rw [refsTo, refsTo, refsV_take hx]
  rcases h with h | h <;> simp [h]
theorem refsTo_add {n : Nd} {j : Nat} {x : Val} (hx : n.fields[j]? = some x) (h : ¬ n.kind = 2) (h2 : x.1 = 2) : refsTo n (j + 1) = refsTo n j ++ [x.2.2] := by
  rw [refsTo, refsTo, refsV_take hx]; simp [h, h2]
theorem must_mem {g : List Nd} {roots : List ID} {x : ID} (h : x ∈ mustL g roots (reachL g roots)) (hf : (findG g x).isSome = true) : x ∈ reachL g roots := by
  obtain ⟨n, hn⟩ := Option.isSome_iff_exists.1 hf
  rw [mem_reachL]
  simp only [mustL, List.mem_append, List.mem_flatMap] at h
  rcases h with h | ⟨m, hm, hx⟩
  · exact .root h hn
  · rw [mem_reachL] at hm
    obtain ⟨k, hk⟩ := hm.has
    rw [hk] at hx
    exact .step hm hk hx hn
theorem mem_must {g : List Nd} {roots : List ID} {x : ID} (h : x ∈ reachL g roots) : x ∈ mustL g roots (reachL g roots) := by
  rw [mem_reachL] at h
  simp only [mustL, List.mem_append, List.mem_flatMap]
  cases h with
  | root h1 _ => exact .inl h1
  | step h1 h2 h3 _ => exact .inr ⟨_, mem_reachL.2 h1, by rw [h2]; exact h3⟩
theorem reach_find {g : List Nd} {roots : List ID} {x : ID} (h : x ∈ reachL g roots) : ∃ n, findG g x = some n := by
  rw [mem_reachL] at h; exact h.has
theorem mustL_def (g : List Nd) (roots live : List ID) : mustL g roots live = roots ++ live.flatMap fun id => refsOf ((findG g id).getD zeroN) := rfl
attribute [local irreducible] mustL refsTo
theorem reaches_s {h : Frag} {a : Value} {vs : List View} (hs : SLB 9223372036854775807 h 13 (ViewC 9223372036854775807) a vs) : PSpec Tryz.prog 3 #[a] h (fun _ v => v = .bool true) := by
  obtain ⟨pv, cv, rfl⟩ := hs.slice
  refine pspec_of (vs := [.slice pv vs.length cv]) Tryz.func3 Tryz.ntmps3 rfl rfl ?_
  by_cases hfew : fewB vs = true
  · have sm := few_small hfew
    have hB := hs
    replace hs := slb_small hs sm
    have hlen := sm.len
    obtain ⟨_, hgl, hgf⟩ := sm.graph
    have hrl := roots_len sm
    have hrr := sm.reach
    (focus (refine WP_seq ?_; refine R_region ?_; refine S_q rfl rfl rfl (Q_assign rfl rfl) ?_; refine OPS_nil ?_; refine then_n ?_; refine WP_seq ?_; refine WP_seq ?_; refine R_region ?_; refine S_c rfl rfl rfl (C_callv (awake_s) rfl rfl rfl (cal rfl) ?_); refine S_q rfl rfl rfl (Q_not rfl rfl) ?_; refine OPS_nil ?_; refine then_n ?_; refine cond_f rfl ?_; refine WP_skip ?_; refine then_n ?_; refine WP_seq ?_; refine WP_seq ?_; refine R_region ?_; refine S_q rfl rfl rfl (Q_move rfl rfl) ?_; refine S_c rfl rfl rfl (C_callv (few_s (by assumption)) rfl rfl ⟨_, _, rfl, rfl, rfl⟩ (cal rfl) ?_); refine S_q rfl rfl rfl (Q_not rfl rfl) ?_; refine OPS_nil ?_; refine then_n ?_; refine WP_cond rfl (fun c0_1 => ?_) (fun c0_1 => ?_) <;> (first | (simp [*] at c0_1; done) | (try simp at c0_1)); refine WP_skip ?_; refine then_n ?_; refine WP_seq ?_; refine R_region ?_; refine S_q rfl rfl rfl (Q_move rfl rfl) ?_; refine S_c rfl rfl rfl (C_call (graph_s (by assumption) (by assumption)) rfl rfl ⟨_, _, rfl, rfl, rfl⟩ (cal rfl) ?_); rintro h0_2 _ l0_2 ⟨_, rfl, pg0_2, qg0_2, rfl, fg0_2⟩; replace hB := hB.up l0_2; replace hs := hs.up l0_2; refine S_q rfl rfl rfl (Q_move rfl rfl) ?_; refine S_q rfl rfl rfl (Q_extract rfl rfl rfl) ?_; refine S_q rfl rfl rfl (Q_extract rfl rfl rfl) ?_; refine S_c rfl rfl rfl (C_alloc rfl (zer rfl) ?_); intro b0_3; refine S_w0 rfl rfl (W_all rfl rfl rfl (ty rfl) u0 (by first | rfl | assumption) (by first | rfl | assumption) (by first | rfl | assumption | exact ones_sub (by assumption) _ _) ?_); refine S_q rfl rfl rfl (Q_assign rfl rfl) ?_; refine OPS_nil ?_; refine then_n ?_; refine WP_seq ?_; refine R_region ?_; refine S_q rfl rfl rfl (Q_move rfl rfl) ?_; refine S_c rfl rfl rfl (C_call (reachable_s (by assumption) (by assumption)) rfl rfl ⟨_, _, rfl, rfl, rfl⟩ (cal rfl) ?_); rintro h0_4 _ l0_4 ⟨p0_4, q0_4, rfl, f0_4⟩; replace fg0_2 := fg0_2.up l0_4; replace hB := hB.up l0_4; replace hs := hs.up l0_4; refine S_q rfl rfl rfl (Q_assign rfl rfl) ?_; refine OPS_nil ?_; refine then_n ?_; refine WP_seq ?_; refine WP_seq ?_; refine R_region ?_; refine S_q rfl rfl rfl (Q_move rfl rfl) ?_; refine S_q rfl rfl rfl (Q_cmp rfl rfl rfl rfl) ?_; refine OPS_nil ?_; refine then_n ?_; refine WP_cond rfl (fun c0_5 => ?_) (fun c0_5 => ?_) <;> (first | (simp [*] at c0_5; done) | (try simp at c0_5)); (focus (refine WP_seq ?_; refine R_region ?_; refine S_q rfl rfl rfl (Q_move rfl rfl) ?_; refine S_q rfl rfl rfl (Q_len rfl rfl rfl rfl rfl rfl) ?_; refine S_q rfl rfl rfl (Q_cmp rfl rfl rfl rfl) ?_; refine S_q rfl rfl rfl (Q_assign rfl rfl) ?_; refine OPS_nil ?_; refine then_n ?_; refine WP_ret ?_; refine then_r ?_)); rotate_left 1; (focus (refine WP_skip ?_; refine then_n ?_; refine WP_seq ?_; refine R_region ?_; refine S_c rfl rfl rfl (C_makeMapK idk rfl rfl ?_); intro b0_6; refine S_q rfl rfl rfl (Q_assign rfl rfl) ?_; refine OPS_nil ?_; refine then_n ?_; refine WP_seq ?_; refine WP_seq ?_; refine R_region ?_; refine S_q rfl rfl rfl (Q_move rfl rfl) ?_; refine S_c rfl rfl rfl (C_call (roots_s (by assumption) (by assumption)) rfl rfl ⟨_, _, rfl, rfl, rfl⟩ (cal rfl) ?_); rintro h0_7 _ l0_7 ⟨p0_7, q0_7, rfl, f0_7⟩; replace f0_4 := f0_4.up l0_7; replace fg0_2 := fg0_2.up l0_7; replace hB := hB.up l0_7; replace hs := hs.up l0_7; refine S_q rfl rfl rfl (Q_len rfl rfl rfl rfl rfl rfl) ?_; refine S_q rfl rfl rfl (Q_move rfl rfl) ?_; refine OPS_nil ?_; refine then_n ?_; refine WP_block ?_)); rotate_left 1))
    · refine pret (.inl rfl) rfl ⟨_, _, rfl, rfl, rfl⟩ ?_
      have : reachR vs = [] := by rw [reachR, if_neg c0_5]
      simp only [resOf]; rw [this]; rfl
    have hre : reachR vs = reachL (graphR vs).1 (rootsR vs) := by rw [reachR, if_pos c0_5]
    rw [hre] at f0_4 hrr ⊢
    clear hre
    generalize hroots : rootsR vs = roots at *
    generalize hgr : (graphR vs).1 = g at *
    generalize hlive : reachL g roots = live at *
    (focus (refine WP_keepM [_] [_] _ rfl ?_; rintro h1_k l1_k k1_k; have a1_k := at_of_keep k1_k; clear k1_k; replace hB := hB.up l1_k; replace hs := hs.up l1_k; replace f0_7 := f0_7.up l1_k; replace fg0_2 := fg0_2.up l1_k; replace f0_4 := f0_4.up l1_k))
    (refine WP_loopF (α := Nat × List (ID × Value)) [40, 39, 6, 5, 3] (fun (s : Nat × List (ID × Value)) => roots.length - s.1) (fun (s : Nat × List (ID × Value)) => [(b0_6, mapObj idv s.2)]) (fun (s : Nat × List (ID × Value)) => [(41, .int .i64 (s.1 : Int))]) (fun hh (s : Nat × List (ID × Value)) => hh = h1_k ∧ s.1 ≤ roots.length ∧ BMap s.2 (roots.take s.1)) (0, []) ⟨_, _, rfl, ⟨_, _, rfl, ⟨_, _, rfl, ⟨_, _, rfl, ⟨_, _, rfl, rfl, rfl⟩, rfl⟩, rfl⟩, rfl⟩, rfl⟩ ?_ (by repeat' (first | exact List.Sublist.refl _ | exact List.sublist_append_left _ _ | exact List.nil_sublist _ | apply List.Sublist.cons₂ | apply List.Sublist.cons)) (by repeat' (first | exact trivial | refine ⟨rfl, ?_⟩)) ?_)
    · exact ⟨rfl, Nat.zero_le _, BMap_nil⟩
    rintro h1 ⟨k, ps⟩ _ ⟨rfl, hk, hm⟩
    simp only at hk hm
    dsimp only
    by_cases hlt : k < roots.length
    · obtain ⟨⟨i1, i2⟩, ei⟩ := get_of hlt
      (focus (refine WP_seq ?_; refine R_region ?_; refine S_q rfl rfl rfl (Q_cmp rfl rfl rfl rfl) ?_; refine OPS_nil ?_; refine then_n ?_; refine WP_seq ?_; refine WP_cond rfl (fun c3_1 => ?_) (fun c3_1 => ?_) <;> (first | (simp [*] at c3_1; done) | (try simp at c3_1)); refine WP_skip ?_; refine then_n ?_; refine WP_seq ?_; refine WP_block ?_; refine WP_seq ?_; refine R_region ?_; refine S_q rfl rfl rfl (Q_indexS (by assumption) (by assumption) rfl rfl rfl (elm rfl) rfl) ?_; refine S_load rfl rfl rfl rfl rfl ?_; refine L_elA (by assumption) (by assumption) (ty rfl) ?_; rintro _ _ _ rfl; refine S_c rfl rfl rfl (C_alloc rfl (zer rfl) ?_); intro b3_3; refine S_w0 rfl rfl (W_all rfl rfl rfl (ty rfl) u0 (by first | rfl | assumption) (by first | rfl | assumption) (by first | rfl | assumption | exact ones_sub (by assumption) _ _) ?_); refine OPS_nil ?_; refine then_n ?_; refine R_region ?_; refine S_q rfl rfl rfl (Q_move rfl rfl) ?_; refine S_load rfl rfl rfl rfl rfl ?_; refine L_agg (Rd.own m0) (ty rfl) (by first | rfl | assumption) ?_; refine S_w0 rfl rfl (W_mapUpdate rfl rfl (key_id rfl) rfl idk rfl u1 ?_); refine OPS_nil ?_; refine block_n ?_; refine then_n ?_; refine R_region ?_; refine S_q rfl rfl rfl (Q_add rfl rfl rfl (by omega)) ?_; refine S_q rfl rfl rfl (Q_move rfl rfl) ?_; refine OPS_nil ?_))
      refine roundF_n (k + 1, _) (by simp only; omega) ⟨rfl, by simp only; omega, ?_⟩ (by repeat' (first | exact List.Sublist.refl _ | exact List.sublist_append_left _ _ | exact List.nil_sublist _ | apply List.Sublist.cons₂ | apply List.Sublist.cons)) (by repeat' (first | exact trivial | refine ⟨rfl, ?_⟩))
      simp only; rw [List.take_add_one, ei]; exact BMap_put hm (i1, i2)
    have hge : k = roots.length := by omega
    subst hge
    rw [List.take_length] at hm
    (focus (refine WP_seq ?_; refine R_region ?_; refine S_q rfl rfl rfl (Q_cmp rfl rfl rfl rfl) ?_; refine OPS_nil ?_; refine then_n ?_; refine WP_seq ?_; refine WP_cond rfl (fun c4_1 => ?_) (fun c4_1 => ?_) <;> (first | (simp [*] at c4_1; done) | (try simp at c4_1)); refine WP_exit ?_; refine then_e ?_; refine roundF_e ?_; refine block_e ?_; refine then_n ?_; refine WP_seq ?_; refine WP_seq ?_; refine R_region ?_; refine S_q rfl rfl rfl (Q_move rfl rfl) ?_; refine S_q rfl rfl rfl (Q_len rfl rfl rfl rfl rfl rfl) ?_; refine S_q rfl rfl rfl (Q_move rfl rfl) ?_; refine OPS_nil ?_; refine then_n ?_; refine WP_block ?_))
    (refine WP_loopF (α := Nat × List (ID × Value)) [49, 48, 6, 5, 3] (fun (s : Nat × List (ID × Value)) => live.length - s.1) (fun (s : Nat × List (ID × Value)) => [(b0_6, mapObj idv s.2)]) (fun (s : Nat × List (ID × Value)) => [(50, .int .i64 (s.1 : Int))]) (fun hh (s : Nat × List (ID × Value)) => le h1 hh ∧ s.1 ≤ live.length ∧ BMap s.2 (roots ++ (live.take s.1).flatMap fun id => refsOf ((findG g id).getD zeroN))) (0, ps) ⟨_, _, rfl, ⟨_, _, rfl, ⟨_, _, rfl, ⟨_, _, rfl, ⟨_, _, rfl, rfl, rfl⟩, rfl⟩, rfl⟩, rfl⟩, rfl⟩ ?_ (by repeat' (first | exact List.Sublist.refl _ | exact List.sublist_append_left _ _ | exact List.nil_sublist _ | apply List.Sublist.cons₂ | apply List.Sublist.cons)) (by repeat' (first | exact trivial | refine ⟨rfl, ?_⟩)) ?_)
    · exact ⟨le_refl _, Nat.zero_le _, by simpa using hm⟩
    clear hm ps
    rintro h2 ⟨k, ps⟩ _ ⟨hl2, hk, hm⟩
    simp only at hk hm
    dsimp only
    (replace a1_k := a1_k.up hl2; replace hB := hB.up hl2; replace hs := hs.up hl2; replace f0_7 := f0_7.up hl2; replace fg0_2 := fg0_2.up hl2; replace f0_4 := f0_4.up hl2)
    by_cases hlt : k < live.length
    · obtain ⟨⟨i1, i2⟩, ei⟩ := get_of hlt
      obtain ⟨n, hn⟩ := reach_find (g := g) (roots := roots) (x := (i1, i2)) (by rw [hlive]; exact List.mem_of_getElem? ei)
      have hfl := hgf n (findG_some hn).1
      have htk := flatMap_take (fun id => refsOf ((findG g id).getD zeroN)) ei
      (focus (refine WP_seq ?_; refine R_region ?_; refine S_q rfl rfl rfl (Q_cmp rfl rfl rfl rfl) ?_; refine OPS_nil ?_; refine then_n ?_; refine WP_seq ?_; refine WP_cond rfl (fun c7_1 => ?_) (fun c7_1 => ?_) <;> (first | (simp [*] at c7_1; done) | (try simp at c7_1)); refine WP_skip ?_; refine then_n ?_; refine WP_seq ?_; refine WP_block ?_; refine WP_seq ?_; refine R_region ?_; refine S_q rfl rfl rfl (Q_indexS (by assumption) (by assumption) rfl rfl rfl (elm rfl) rfl) ?_; refine S_load rfl rfl rfl rfl rfl ?_; refine L_elA (by assumption) (by assumption) (ty rfl) ?_; rintro _ _ _ rfl; refine S_c rfl rfl rfl (C_alloc rfl (zer rfl) ?_); intro b7_3; refine S_w0 rfl rfl (W_all rfl rfl rfl (ty rfl) u0 (by first | rfl | assumption) (by first | rfl | assumption) (by first | rfl | assumption | exact ones_sub (by assumption) _ _) ?_); refine OPS_nil ?_; refine then_n ?_; refine WP_seq ?_; refine R_region ?_; refine S_load rfl rfl rfl rfl rfl ?_; refine L_agg (Rd.pers (by assumption)) (ty rfl) (by first | rfl | assumption) ?_; refine S_load rfl rfl rfl rfl rfl ?_; refine L_agg (Rd.own m0) (ty rfl) (by first | rfl | assumption) ?_; refine S_c rfl rfl rfl (C_call (find_s ⟨_, _, rfl, by assumption⟩) rfl rfl ⟨_, _, rfl, ⟨_, _, rfl, rfl, rfl⟩, rfl⟩ (cal rfl) ?_); rintro h7_4 _ l7_4 ⟨vf7_4, rfl, pn7_4, qn7_4, rfl, fn7_4⟩; replace a1_k := a1_k.up l7_4; replace hB := hB.up l7_4; replace hs := hs.up l7_4; replace f0_7 := f0_7.up l7_4; replace fg0_2 := fg0_2.up l7_4; replace f0_4 := f0_4.up l7_4; refine S_q rfl rfl rfl (Q_move rfl rfl) ?_; refine S_q rfl rfl rfl (Q_extract rfl rfl rfl) ?_; refine S_q rfl rfl rfl (Q_extract rfl rfl rfl) ?_; refine S_c rfl rfl rfl (C_alloc rfl (zer rfl) ?_); intro b7_5; refine S_w0 rfl rfl (W_all rfl rfl rfl (ty rfl) u0 (by first | rfl | assumption) (by first | rfl | assumption) (by first | rfl | assumption | exact ones_sub (by assumption) _ _) ?_); refine S_q rfl rfl rfl (Q_assign rfl rfl) ?_; refine OPS_nil ?_; refine then_n ?_; refine WP_seq ?_; refine WP_seq ?_; refine R_region ?_; refine S_q rfl rfl rfl (Q_move rfl rfl) ?_; refine S_q rfl rfl rfl (Q_not rfl rfl) ?_; refine OPS_nil ?_; refine then_n ?_; refine WP_cond rfl (fun c7_6 => ?_) (fun c7_6 => ?_) <;> (first | (simp [*] at c7_6; done) | (try simp at c7_6)); refine WP_skip ?_; refine then_n ?_; refine WP_seq ?_; refine R_region ?_; refine S_q rfl rfl rfl (Q_fieldAddr rfl rfl (fld rfl rfl)) ?_; refine S_load rfl rfl rfl rfl rfl ?_; refine L_fld (Rd.own m0) (ty rfl) rfl ?_; refine S_q rfl rfl rfl (Q_len rfl rfl rfl rfl rfl rfl) ?_; refine S_q rfl rfl rfl (Q_move rfl rfl) ?_; refine OPS_nil ?_; refine then_n ?_; refine WP_block ?_))
      have hgd : (findG g (i1, i2)).getD zeroN = n := by rw [hn]; rfl
      rw [hgd] at htk fn7_4 ⊢
      (refine WP_loopM (α := Nat × List (ID × Value)) [_, _]  _ [64, 63, 11, 50, 49, 48, 6, 5, 3] (fun (s : Nat × List (ID × Value)) => n.fields.length - s.1) (fun (s : Nat × List (ID × Value)) =>  [(b0_6, mapObj idv s.2)]) (fun (s : Nat × List (ID × Value)) => [(65, .int .i64 (s.1 : Int))]) (fun hh (s : Nat × List (ID × Value)) => hh = h7_4 ∧ s.1 ≤ n.fields.length ∧ BMap s.2 ((roots ++ (live.take k).flatMap fun id => refsOf ((findG g id).getD zeroN)) ++ refsTo n s.1)) (0, ps) rfl ⟨_, _, rfl, ⟨_, _, rfl, ⟨_, _, rfl, ⟨_, _, rfl, ⟨_, _, rfl, ⟨_, _, rfl, ⟨_, _, rfl, ⟨_, _, rfl, ⟨_, _, rfl, rfl, rfl⟩, rfl⟩, rfl⟩, rfl⟩, rfl⟩, rfl⟩, rfl⟩, rfl⟩, rfl⟩ (by repeat' (first | exact trivial | refine ⟨rfl, ?_⟩)) ?_ ?_)
      · exact ⟨rfl, Nat.zero_le _, by simpa [refsTo_0] using hm⟩
      clear hm ps
      rintro h3 ⟨j, ps⟩ _ ⟨rfl, hj, hm⟩
      simp only at hj hm
      dsimp only
      by_cases hlt2 : j < n.fields.length
      · obtain ⟨⟨x1, x2, x3, x4⟩, ex⟩ := get_of hlt2
        (focus (refine WP_seq ?_; refine R_region ?_; refine S_q rfl rfl rfl (Q_cmp rfl rfl rfl rfl) ?_; refine OPS_nil ?_; refine then_n ?_; refine WP_seq ?_; refine WP_cond rfl (fun c9_1 => ?_) (fun c9_1 => ?_) <;> (first | (simp [*] at c9_1; done) | (try simp at c9_1)); refine WP_skip ?_; refine then_n ?_; refine WP_seq ?_; refine WP_block ?_; refine WP_seq ?_; refine R_region ?_; refine S_q rfl rfl rfl (Q_indexS (by assumption) (by assumption) rfl rfl rfl (elm rfl) rfl) ?_; refine S_load rfl rfl rfl rfl rfl ?_; refine L_elA (by assumption) (by assumption) (ty rfl) ?_; rintro _ _ _ rfl; refine S_c rfl rfl rfl (C_alloc rfl (zer rfl) ?_); intro b9_3; refine S_w0 rfl rfl (W_all rfl rfl rfl (ty rfl) u0 (by first | rfl | assumption) (by first | rfl | assumption) (by first | rfl | assumption | exact ones_sub (by assumption) _ _) ?_); refine OPS_nil ?_; refine then_n ?_; refine WP_seq ?_; refine R_region ?_; refine S_q rfl rfl rfl (Q_fieldAddr rfl rfl (fld rfl rfl)) ?_; refine S_load rfl rfl rfl rfl rfl ?_; refine L_fld (Rd.own m1) (ty rfl) rfl ?_; refine S_q rfl rfl rfl (Q_cmp rfl rfl rfl rfl) ?_; refine S_q rfl rfl rfl (Q_move rfl rfl) ?_; refine S_gsplit rfl rfl rfl rfl (fun c9_4 => ?_) (fun c9_4 => ?_) <;> (first | (simp [*] at c9_4; done) | (try simp at c9_4)); (focus (refine S_gq rfl rfl rfl rfl rfl rfl (Q_fieldAddr rfl rfl (fld rfl rfl)) ?_; refine S_gload rfl rfl rfl rfl rfl rfl rfl rfl ?_; refine L_fld (Rd.own m0) (ty rfl) rfl ?_; refine S_gq rfl rfl rfl rfl rfl rfl (Q_cmp rfl rfl rfl rfl) ?_; refine S_q rfl rfl rfl (Q_pick_t rfl rfl rfl) ?_; refine OPS_nil ?_; refine then_n ?_; refine WP_cond rfl (fun c9_5 => ?_) (fun c9_5 => ?_) <;> (first | (simp [*] at c9_5; done) | (try simp at c9_5)); (focus (refine R_region ?_; refine S_q rfl rfl rfl (Q_move rfl rfl) ?_; refine S_q rfl rfl rfl (Q_fieldAddr rfl rfl (fld rfl rfl)) ?_; refine S_load rfl rfl rfl rfl rfl ?_; refine L_sub (Rd.own m0) (ty rfl) rfl ?_; refine S_w0 rfl rfl (W_mapUpdate rfl rfl (key_id rfl) rfl idk rfl u3 ?_); refine OPS_nil ?_; refine block_n ?_; refine then_n ?_; refine R_region ?_; refine S_q rfl rfl rfl (Q_add rfl rfl rfl (by omega)) ?_; refine S_q rfl rfl rfl (Q_move rfl rfl) ?_; refine OPS_nil ?_)); rotate_left 1; (focus (refine WP_skip ?_; refine block_n ?_; refine then_n ?_; refine R_region ?_; refine S_q rfl rfl rfl (Q_add rfl rfl rfl (by omega)) ?_; refine S_q rfl rfl rfl (Q_move rfl rfl) ?_; refine OPS_nil ?_)); rotate_left 1)); rotate_left 2; (focus (refine S_gn rfl rfl rfl rfl rfl rfl ?_; refine S_gn rfl rfl rfl rfl rfl rfl ?_; refine S_gn rfl rfl rfl rfl rfl rfl ?_; refine S_q rfl rfl rfl (Q_pick_f rfl rfl rfl) ?_; refine OPS_nil ?_; refine then_n ?_; refine cond_f rfl ?_; refine WP_skip ?_; refine block_n ?_; refine then_n ?_; refine R_region ?_; refine S_q rfl rfl rfl (Q_add rfl rfl rfl (by omega)) ?_; refine S_q rfl rfl rfl (Q_move rfl rfl) ?_; refine OPS_nil ?_)); rotate_left 1))
        · refine roundF_n (j + 1, _) (by simp only; omega) ⟨rfl, by simp only; omega, ?_⟩ (by repeat' (first | exact List.Sublist.refl _ | exact List.sublist_append_left _ _ | exact List.nil_sublist _ | apply List.Sublist.cons₂ | apply List.Sublist.cons)) (by repeat' (first | exact trivial | refine ⟨rfl, ?_⟩))
          simp only; rw [refsTo_add ex c9_4 c9_5, ← List.append_assoc]; exact BMap_put hm (x3, x4)
        · refine roundF_n (j + 1, ps) (by simp only; omega) ⟨rfl, by simp only; omega, ?_⟩ (by repeat' (first | exact List.Sublist.refl _ | exact List.sublist_append_left _ _ | exact List.nil_sublist _ | apply List.Sublist.cons₂ | apply List.Sublist.cons)) (by repeat' (first | exact trivial | refine ⟨rfl, ?_⟩))
          simp only; rw [refsTo_skip ex (.inr c9_5)]; exact hm
        · refine roundF_n (j + 1, ps) (by simp only; omega) ⟨rfl, by simp only; omega, ?_⟩ (by repeat' (first | exact List.Sublist.refl _ | exact List.sublist_append_left _ _ | exact List.nil_sublist _ | apply List.Sublist.cons₂ | apply List.Sublist.cons)) (by repeat' (first | exact trivial | refine ⟨rfl, ?_⟩))
          simp only; rw [refsTo_skip ex (.inl c9_4)]; exact hm
      have hge : j = n.fields.length := by omega
      subst hge
      rw [refsTo_all] at hm
      (focus (refine WP_seq ?_; refine R_region ?_; refine S_q rfl rfl rfl (Q_cmp rfl rfl rfl rfl) ?_; refine OPS_nil ?_; refine then_n ?_; refine WP_seq ?_; refine WP_cond rfl (fun c10_1 => ?_) (fun c10_1 => ?_) <;> (first | (simp [*] at c10_1; done) | (try simp at c10_1)); refine WP_exit ?_; refine then_e ?_; refine roundF_e ?_; refine block_e ?_; refine block_n ?_; refine then_n ?_; refine R_region ?_; refine S_q rfl rfl rfl (Q_add rfl rfl rfl (by omega)) ?_; refine S_q rfl rfl rfl (Q_move rfl rfl) ?_; refine OPS_nil ?_))
      refine roundF_n (k + 1, ps) (by simp only; omega) ⟨le_trans hl2 l7_4, by simp only; omega, ?_⟩ (by repeat' (first | exact List.Sublist.refl _ | exact List.sublist_append_left _ _ | exact List.nil_sublist _ | apply List.Sublist.cons₂ | apply List.Sublist.cons)) (by repeat' (first | exact trivial | refine ⟨rfl, ?_⟩))
      simp only; rw [htk, ← List.append_assoc]; exact hm
    have hge : k = live.length := by omega
    subst hge
    rw [List.take_length, ← mustL_def] at hm
    (focus (refine WP_seq ?_; refine R_region ?_; refine S_q rfl rfl rfl (Q_cmp rfl rfl rfl rfl) ?_; refine OPS_nil ?_; refine then_n ?_; refine WP_seq ?_; refine WP_cond rfl (fun c11_1 => ?_) (fun c11_1 => ?_) <;> (first | (simp [*] at c11_1; done) | (try simp at c11_1)); refine WP_exit ?_; refine then_e ?_; refine roundF_e ?_; refine block_e ?_; refine then_n ?_; refine WP_seq ?_; refine WP_seq ?_; refine R_region ?_; refine S_q rfl rfl rfl (Q_move rfl rfl) ?_; refine S_c rfl rfl rfl (C_range rfl rfl rfl (.inr m0) ?_); intro b11_2; refine OPS_nil ?_; refine then_n ?_; refine WP_block ?_))
    refine WP_keepM [_] [(b0_6, mapObj idv ps)] _ rfl fun h3 hl3 hm3 => ?_
    have hmp : IsMapP idv h3 b0_6 ps := hm3 (b0_6, mapObj idv ps) (by simp)
    clear hm3
    (replace a1_k := a1_k.up hl3; replace hB := hB.up hl3; replace hs := hs.up hl3; replace f0_7 := f0_7.up hl3; replace fg0_2 := fg0_2.up hl3; replace f0_4 := f0_4.up hl3)
    (refine WP_loopF (α := List Nat) [83, 6, 5, 3] (fun (seen : List Nat) => ps.length - seen.length) (fun (seen : List Nat) => [(b11_2, iterObj b0_6 ps.length seen)]) (fun (seen : List Nat) => []) (fun hh (seen : List Nat) => le h3 hh ∧ Seen ps.length seen) [] ⟨_, _, rfl, ⟨_, _, rfl, ⟨_, _, rfl, ⟨_, _, rfl, rfl, rfl⟩, rfl⟩, rfl⟩, rfl⟩ ?_ (by repeat' (first | exact List.Sublist.refl _ | exact List.sublist_append_left _ _ | exact List.nil_sublist _ | apply List.Sublist.cons₂ | apply List.Sublist.cons)) (by repeat' (first | exact trivial | refine ⟨rfl, ?_⟩)) ?_)
    · exact ⟨le_refl _, Seen_nil _⟩
    rintro h4 seen _ ⟨hl4, hS⟩
    (replace hmp := hmp.up hl4; replace a1_k := a1_k.up hl4; replace hB := hB.up hl4; replace hs := hs.up hl4; replace f0_7 := f0_7.up hl4; replace fg0_2 := fg0_2.up hl4; replace f0_4 := f0_4.up hl4)
    have hsl := Seen_le hS
    (focus (refine WP_seq ?_; refine R_region ?_))
    refine S_w rfl rfl rfl (W_next (fun ob => [(b11_2, ob)]) rfl rfl (.inl hmp) (fun ob => Upd.head _) ?_ ?_)
    · rintro i ⟨k1, k2⟩ v hpi hns
      have hkm := BMap_at hm hpi
      have hlt : i < ps.length := (List.getElem?_eq_some_iff.1 hpi).1
      have hS' := Seen_snoc hS hns hlt
      have hsl' := Seen_le hS'
      simp only [List.length_append, List.length_singleton] at hsl'
      (focus (refine S_q rfl rfl rfl (Q_extract rfl rfl rfl) ?_; refine OPS_nil ?_; refine then_n ?_; refine WP_seq ?_; refine cond_t rfl ?_; refine WP_skip ?_; refine then_n ?_; refine WP_block ?_; refine WP_seq ?_; refine R_region ?_; refine S_q rfl rfl rfl (Q_entry rfl rfl (.inl (by assumption)) m0 (by assumption)) ?_; refine S_q rfl rfl rfl (Q_extract rfl rfl rfl) ?_; refine S_c rfl rfl rfl (C_alloc rfl (zer rfl) ?_); intro b16_1; refine S_w0 rfl rfl (W_all rfl rfl rfl (ty rfl) u0 (by first | rfl | assumption) (by first | rfl | assumption) (by first | rfl | assumption | exact ones_sub (by assumption) _ _) ?_); refine OPS_nil ?_; refine then_n ?_; refine WP_seq ?_; refine R_region ?_; refine S_load rfl rfl rfl rfl rfl ?_; refine L_agg (Rd.pers (by assumption)) (ty rfl) (by first | rfl | assumption) ?_; refine S_load rfl rfl rfl rfl rfl ?_; refine L_agg (Rd.own m0) (ty rfl) (by first | rfl | assumption) ?_; refine S_c rfl rfl rfl (C_call (find_s ⟨_, _, rfl, by assumption⟩) rfl rfl ⟨_, _, rfl, ⟨_, _, rfl, rfl, rfl⟩, rfl⟩ (cal rfl) ?_); rintro h16_2 _ l16_2 ⟨vf16_2, rfl, pn16_2, qn16_2, rfl, fn16_2⟩; replace hmp := hmp.up l16_2; replace a1_k := a1_k.up l16_2; replace hB := hB.up l16_2; replace hs := hs.up l16_2; replace f0_7 := f0_7.up l16_2; replace fg0_2 := fg0_2.up l16_2; replace f0_4 := f0_4.up l16_2; refine S_q rfl rfl rfl (Q_move rfl rfl) ?_; refine S_q rfl rfl rfl (Q_extract rfl rfl rfl) ?_; refine S_q rfl rfl rfl (Q_extract rfl rfl rfl) ?_; refine S_c rfl rfl rfl (C_alloc rfl (zer rfl) ?_); intro b16_3; refine S_w0 rfl rfl (W_all rfl rfl rfl (ty rfl) u0 (by first | rfl | assumption) (by first | rfl | assumption) (by first | rfl | assumption | exact ones_sub (by assumption) _ _) ?_); refine S_q rfl rfl rfl (Q_assign rfl rfl) ?_; refine OPS_nil ?_; refine then_n ?_; refine WP_seq ?_; refine R_region ?_; refine S_q rfl rfl rfl (Q_move rfl rfl) ?_; refine S_q rfl rfl rfl (Q_move rfl rfl) ?_; refine S_gsplit rfl rfl rfl rfl (fun c16_4 => ?_) (fun c16_4 => ?_) <;> (first | (simp [*] at c16_4; done) | (try simp at c16_4)); (focus (refine S_gq rfl rfl rfl rfl rfl rfl (Q_move rfl rfl) ?_; refine S_gload rfl rfl rfl rfl rfl rfl rfl rfl ?_; refine L_agg (Rd.own m1) (ty rfl) (by first | rfl | assumption) ?_; refine S_gc rfl rfl rfl rfl rfl rfl (C_callv (refHas_s (x := (_, _)) (by assumption)) rfl rfl ⟨_, _, rfl, ⟨_, _, rfl, rfl, rfl⟩, rfl⟩ (cal rfl) ?_); refine S_gq rfl rfl rfl rfl rfl rfl (Q_not rfl rfl) ?_; refine S_q rfl rfl rfl (Q_pick_t rfl rfl rfl) ?_; refine OPS_nil ?_; refine then_n ?_; refine WP_cond rfl (fun c16_5 => ?_) (fun c16_5 => ?_) <;> (first | (simp [*] at c16_5; done) | (try simp at c16_5)); (focus (refine WP_seq ?_; refine R_region ?_; refine S_q rfl rfl rfl (Q_assign rfl rfl) ?_; refine OPS_nil ?_; refine then_n ?_; refine WP_ret ?_; refine block_r ?_; refine roundF_r ?_; refine block_r ?_; refine then_r ?_)); rotate_left 1; (focus (refine WP_skip ?_; refine block_n ?_)); rotate_left 1)); rotate_left 2; (focus (refine S_gn rfl rfl rfl rfl rfl rfl ?_; refine S_gn rfl rfl rfl rfl rfl rfl ?_; refine S_gn rfl rfl rfl rfl rfl rfl ?_; refine S_gn rfl rfl rfl rfl rfl rfl ?_; refine S_q rfl rfl rfl (Q_pick_f rfl rfl rfl) ?_; refine OPS_nil ?_; refine then_n ?_; refine cond_f rfl ?_; refine WP_skip ?_; refine block_n ?_)); rotate_left 1))
      · exact absurd (by rw [← hlive]; exact must_mem (by rw [hlive]; exact hkm) c16_4) c16_5
      · refine roundF_n (seen ++ [i]) (by simp only [List.length_append, List.length_singleton]; omega) ⟨le_trans hl4 l16_2, hS'⟩ (by repeat' (first | exact List.Sublist.refl _ | exact List.sublist_append_left _ _ | exact List.nil_sublist _ | apply List.Sublist.cons₂ | apply List.Sublist.cons)) (by repeat' (first | exact trivial | refine ⟨rfl, ?_⟩))
      · refine roundF_n (seen ++ [i]) (by simp only [List.length_append, List.length_singleton]; omega) ⟨le_trans hl4 l16_2, hS'⟩ (by repeat' (first | exact List.Sublist.refl _ | exact List.sublist_append_left _ _ | exact List.nil_sublist _ | apply List.Sublist.cons₂ | apply List.Sublist.cons)) (by repeat' (first | exact trivial | refine ⟨rfl, ?_⟩))
    · intro hall
      (focus (refine S_q rfl rfl rfl (Q_extract rfl rfl rfl) ?_; refine OPS_nil ?_; refine then_n ?_; refine WP_seq ?_; refine cond_f rfl ?_; refine WP_exit ?_; refine then_e ?_; refine roundF_e ?_; refine block_e ?_; refine then_n ?_; refine WP_seq ?_; refine WP_seq ?_; refine R_region ?_; refine S_q rfl rfl rfl (Q_move rfl rfl) ?_; refine S_q rfl rfl rfl (Q_len rfl rfl rfl rfl rfl rfl) ?_; refine S_q rfl rfl rfl (Q_move rfl rfl) ?_; refine OPS_nil ?_; refine then_n ?_; refine WP_block ?_))
      (refine WP_loopC (α := Nat) [102, 101, 6] (fun (k : Nat) => live.length - k) (fun (k : Nat) => [(103, .int .i64 (k : Int))]) (fun hh (k : Nat) => hh = h4 ∧ k ≤ live.length) 0 ⟨_, _, rfl, ⟨_, _, rfl, ⟨_, _, rfl, rfl, rfl⟩, rfl⟩, rfl⟩ (by repeat' (first | exact trivial | refine ⟨rfl, ?_⟩)) ?_ ?_)
      · exact ⟨rfl, Nat.zero_le _⟩
      rintro h5 k _ ⟨rfl, hk⟩
      by_cases hlt : k < live.length
      · obtain ⟨⟨i1, i2⟩, ei⟩ := get_of hlt
        have hget := BMap_get hm (id := (i1, i2)) (by rw [← hlive]; exact mem_must (by rw [hlive]; exact List.mem_of_getElem? ei))
        (focus (refine WP_seq ?_; refine R_region ?_; refine S_q rfl rfl rfl (Q_cmp rfl rfl rfl rfl) ?_; refine OPS_nil ?_; refine then_n ?_; refine WP_seq ?_; refine WP_cond rfl (fun c19_1 => ?_) (fun c19_1 => ?_) <;> (first | (simp [*] at c19_1; done) | (try simp at c19_1)); refine WP_skip ?_; refine then_n ?_; refine WP_seq ?_; refine WP_block ?_; refine WP_seq ?_; refine R_region ?_; refine S_q rfl rfl rfl (Q_indexS (by assumption) (by assumption) rfl rfl rfl (elm rfl) rfl) ?_; refine S_load rfl rfl rfl rfl rfl ?_; refine L_elA (by assumption) (by assumption) (ty rfl) ?_; rintro _ _ _ rfl; refine S_c rfl rfl rfl (C_alloc rfl (zer rfl) ?_); intro b19_3; refine S_w0 rfl rfl (W_all rfl rfl rfl (ty rfl) u0 (by first | rfl | assumption) (by first | rfl | assumption) (by first | rfl | assumption | exact ones_sub (by assumption) _ _) ?_); refine OPS_nil ?_; refine then_n ?_; refine WP_seq ?_; refine R_region ?_; refine S_q rfl rfl rfl (Q_move rfl rfl) ?_; refine S_load rfl rfl rfl rfl rfl ?_; refine L_agg (Rd.own m0) (ty rfl) (by first | rfl | assumption) ?_; refine S_q rfl rfl rfl (Q_lookupS rfl rfl (key_id rfl) idk rfl rfl (.inl (by assumption)) (by assumption)) ?_; refine S_q rfl rfl rfl (Q_not rfl rfl) ?_; refine OPS_nil ?_; refine then_n ?_; refine cond_f rfl ?_; refine WP_skip ?_; refine block_n ?_; refine then_n ?_; refine R_region ?_; refine S_q rfl rfl rfl (Q_add rfl rfl rfl (by omega)) ?_; refine S_q rfl rfl rfl (Q_move rfl rfl) ?_; refine OPS_nil ?_))
        refine roundF_n (k + 1) (by omega) ⟨rfl, by omega⟩ (by repeat' (first | exact List.Sublist.refl _ | exact List.sublist_append_left _ _ | exact List.nil_sublist _ | apply List.Sublist.cons₂ | apply List.Sublist.cons)) (by repeat' (first | exact trivial | refine ⟨rfl, ?_⟩))
      have hge : k = live.length := by omega
      subst hge
      (focus (refine WP_seq ?_; refine R_region ?_; refine S_q rfl rfl rfl (Q_cmp rfl rfl rfl rfl) ?_; refine OPS_nil ?_; refine then_n ?_; refine WP_seq ?_; refine WP_cond rfl (fun c20_1 => ?_) (fun c20_1 => ?_) <;> (first | (simp [*] at c20_1; done) | (try simp at c20_1)); refine WP_exit ?_; refine then_e ?_; refine roundF_e ?_; refine block_e ?_; refine then_n ?_; refine WP_seq ?_; refine R_region ?_; refine S_q rfl rfl rfl (Q_assign rfl rfl) ?_; refine OPS_nil ?_; refine then_n ?_; refine WP_ret ?_))
      refine pret (.inl rfl) rfl ⟨_, _, rfl, rfl, rfl⟩ ?_
      rfl
  · (focus (refine WP_seq ?_; refine R_region ?_; refine S_q rfl rfl rfl (Q_assign rfl rfl) ?_; refine OPS_nil ?_; refine then_n ?_; refine WP_seq ?_; refine WP_seq ?_; refine R_region ?_; refine S_c rfl rfl rfl (C_callv (awake_s) rfl rfl rfl (cal rfl) ?_); refine S_q rfl rfl rfl (Q_not rfl rfl) ?_; refine OPS_nil ?_; refine then_n ?_; refine cond_f rfl ?_; refine WP_skip ?_; refine then_n ?_; refine WP_seq ?_; refine WP_seq ?_; refine R_region ?_; refine S_q rfl rfl rfl (Q_move rfl rfl) ?_; refine S_c rfl rfl rfl (C_callv (few_s (by assumption)) rfl rfl ⟨_, _, rfl, rfl, rfl⟩ (cal rfl) ?_); refine S_q rfl rfl rfl (Q_not rfl rfl) ?_; refine OPS_nil ?_; refine then_n ?_; refine WP_cond rfl (fun c21_1 => ?_) (fun c21_1 => ?_) <;> (first | (simp [*] at c21_1; done) | (try simp at c21_1)); refine WP_seq ?_; refine R_region ?_; refine S_q rfl rfl rfl (Q_assign rfl rfl) ?_; refine OPS_nil ?_; refine then_n ?_; refine WP_ret ?_; refine then_r ?_))
    refine pret (.inl rfl) rfl ⟨_, _, rfl, rfl, rfl⟩ ?_
    rfl
end Go.Proofs.YtfhoecgiahpddaaGreat
