/- For every list of views, graph and list of identities of bulk at most 1048576 together: ObserverJudges returns true and leaves its arguments as they were. -/
import Derived.ChangeArms
import Derived.ChangeReads
import Derived.WideShapes
import Derived.Test.YtfhoecgiahpddaaGreatChecked
import Derived.KernelRfl
import Derived.Test.YtfhoecgiahpddaaGreatRows
import Derived.WalkKit
import Derived.ProofKit
import Derived.OpenShut
import Derived.Carry
import Derived.JoinedCond
import Derived.Test.YtfhoecgiahpddaaGreatMjA
import Derived.Test.YtfhoecgiahpddaaGreatMjB
import Derived.Test.YtfhoecgiahpddaaGreatMjC
import Derived.Test.YtfhoecgiahpddaaGreatMjD
import Derived.Test.YtfhoecgiahpddaaGreatMjE
/-
  CONTRACTS: the reference's count of garbage (refmeshref55.Garbage).
-/
set_option linter.all false
namespace Go.Proofs.YtfhoecgiahpddaaGreat
open Go.Mesh Go.RowKit
set_option maxRecDepth 100000
set_option linter.unusedVariables false
set_option maxHeartbeats 4000000
attribute [local irreducible] WP OPS ANY ANYo LG LV FSpec PSpec QOP OPc OPw thenQ blockQ roundQ roundF retQ retM Rd At SLB OS cmpI orI cmpID namedB valB nodeB kindB validG valAux idxI findG zeroV viewOf vwAt idxOf recv flyB scionOf moveOf numberedOf idOf valueOf mget mput localB carriedB msgB sizesB smallV fewB stubOf followF followOf flOf flightsOf flPre setL minusL compactL putI mergeN insN insAll unionR NMap Coll retN bodyS GMap Dfs refsV refsOf reachL movedOf movedG graphParts graphR isMove flightIDs mailIDs viewIDs rawRoots rootsR refFl refMoved refPut keepL Bfs reachR deadN viewObjs garbageOf garbageR objsL refView1 refRaw
theorem deadN_yes {live l : List ID} {x : ID} (h : x ∈ live) : deadN live (l ++ [x]) = deadN live l := by rw [deadN_snoc, if_pos h]; rfl
theorem deadN_no {live l : List ID} {x : ID} (h : ¬ x ∈ live) : deadN live (l ++ [x]) = deadN live l + 1 := by rw [deadN_snoc, if_neg h]
theorem refGarbage_s {h : Frag} {a : Value} {vs : List View} (hs : SL h 13 (ViewC 4398046511104) a vs) (sm : Small vs) : PSpec Tryz.prog 28 #[a] h (fun _ v => v = .int .i64 ((garbageR vs : Nat) : Int)) := by
  have hlen := sm.len
  obtain ⟨pv, cv, rfl⟩ := hs.slice
  refine pspec_of (vs := [.slice pv vs.length cv]) Tryz.func28 Tryz.ntmps28 rfl rfl ?_
  (focus (refine Wr ?_; refine Tm ?_; refine On ?_; refine Wr ?_; refine Tm ?_; refine S_c rfl rfl rfl (C_call (refReachable_s ‹_› ‹_›) rfl rfl ⟨_, _, rfl, rfl, rfl⟩ (cal rfl) ?_); rintro h0_1 _ l0_1 ⟨p0_1, q0_1, rfl, f0_1⟩; replace hs := hs.up l0_1; refine Tm ?_; refine On ?_; refine Wr ?_; refine Tm ?_; refine On ?_; refine WP_seq ?_; refine Wr ?_; refine Tm ?_; refine On ?_; refine WP_block ?_))
  (refine WP_loopC (α := Nat × Nat) [3, 0] (fun (s : Nat × Nat) => vs.length - s.1) (fun (s : Nat × Nat) => [(5, .int .i64 (s.1 : Int)), (4, .int .i64 (s.2 : Int))]) (fun hh (s : Nat × Nat) => le h0_1 hh ∧ s.1 ≤ vs.length ∧ s.2 = ((vs.take s.1).map (garbageOf (reachR vs))).sum) (0, 0) ⟨_, _, rfl, ⟨_, _, rfl, rfl, rfl⟩, rfl⟩ (by repeat' first | exact trivial | refine ⟨rfl, ?_⟩) ?_ ?_)
  · exact ⟨le_refl _, Nat.zero_le _, rfl⟩
  rintro h1 ⟨k, n⟩ _ ⟨hl1, hk, hn⟩
  simp only at hk hn
  dsimp only
  (replace f0_1 := f0_1.up hl1; replace hs := hs.up hl1)
  have hnl : n ≤ 200 := by
    have := sum_le (garbageOf (reachR vs)) 36 (vs.take k) fun v hv => garbageOf_le sm _ (List.mem_of_mem_take hv)
    rw [List.length_take] at this
    rw [hn]; omega
  by_cases hlt : k < vs.length
  · obtain ⟨v, ev⟩ := get_of hlt
    have hvm : v ∈ vs := List.mem_of_getElem? ev
    have ho := sm.objs v hvm
    have hst := sm.stubs v hvm
    have hsc := sm.scions v hvm
    have hsum := sum_take (garbageOf (reachR vs)) ev
    (focus (refine WP_seq ?_; refine Wr ?_; refine Tm ?_; refine Tm ?_; refine Tlen ?_; refine Tc ?_; refine On ?_; refine Wc ?_ ?_ <;> intro c3_1 <;> (first | simp [*] at c3_1; done | try simp at c3_1); refine WP_skip ?_; refine then_n ?_; refine WP_seq ?_; refine WP_block ?_; refine Wr ?_; refine Tm ?_; refine Tm ?_; refine Ti ?_; refine Tl ?_; refine Le ?_; rintro _ _ _ ⟨xi3_2, xa3_2, po3_2, qo3_2, ps3_2, qs3_2, pc3_2, qc3_2, pn3_2, qn3_2, pm3_2, qm3_2, xw3_2, xv3_2, pf3_2, qf3_2, pr3_2, qr3_2, xe3_2, xf3_2, rfl, vo3_2, vs3_2, vc3_2, vn3_2, vm3_2, vf3_2, vr3_2⟩; refine Tal ?_; intro b3_3; refine Tw u0 ?_; refine On ?_; refine WP_seq ?_; refine Wr ?_; refine Tm ?_; refine On ?_; refine WP_block ?_))
    (focus (refine WP_keepM [] [_] _ rfl ?_; rintro h4_k l4_k k4_k; have a4_k := at_of_keep k4_k; clear k4_k; replace f0_1 := f0_1.up l4_k; replace hs := hs.up l4_k; replace vo3_2 := vo3_2.up l4_k; replace vs3_2 := vs3_2.up l4_k; replace vc3_2 := vc3_2.up l4_k; replace vn3_2 := vn3_2.up l4_k; replace vm3_2 := vm3_2.up l4_k; replace vf3_2 := vf3_2.up l4_k; replace vr3_2 := vr3_2.up l4_k))
    (refine WP_loopC (α := Nat × Nat) [6, 5, 3, 0] (fun (s : Nat × Nat) => v.objects.length - s.1) (fun (s : Nat × Nat) => [(7, .int .i64 (s.1 : Int)), (4, .int .i64 (s.2 : Int))]) (fun hh (s : Nat × Nat) => hh = h4_k ∧ s.1 ≤ v.objects.length ∧ s.2 = n + deadN (reachR vs) (objsL (v.objects.take s.1))) (0, n) ⟨_, _, rfl, ⟨_, _, rfl, ⟨_, _, rfl, ⟨_, _, rfl, rfl, rfl⟩, rfl⟩, rfl⟩, rfl⟩ (by repeat' first | exact trivial | refine ⟨rfl, ?_⟩) ?_ ?_)
    · exact ⟨rfl, Nat.zero_le _, by simp [objsL_nil, deadN_nil]⟩
    rintro h2 ⟨j, n2⟩ _ ⟨rfl, hj, hn2⟩
    simp only at hj hn2
    dsimp only
    have hb2 := deadN_take_le (reachR vs) (objsL (v.objects.take j)) 12 (Nat.le_trans (objsL_le _) (by rw [List.length_take]; omega))
    by_cases hlt2 : j < v.objects.length
    · obtain ⟨⟨⟨x1, x2⟩, xk, xc, xf⟩, ex⟩ := get_of hlt2
      have htk := objsL_take ex
      simp only at htk
      by_cases hk3 : xk = 3
      · rw [if_pos hk3, List.append_nil] at htk
        (focus (refine WP_seq ?_; refine Wr ?_; refine Tm ?_; refine Tf ?_; refine Tf ?_; refine Tl ?_; refine L_fld2 (Rd.pers ‹_›) ?_; refine LV_1 (ty rfl) rfl ?_; refine Tlen ?_; refine Tc ?_; refine On ?_; refine Wc ?_ ?_ <;> intro c6_1 <;> (first | simp [*] at c6_1; done | try simp at c6_1); refine WP_skip ?_; refine then_n ?_; refine WP_seq ?_; refine WP_block ?_; refine Wr ?_; refine Tf ?_; refine Tf ?_; refine Tl ?_; refine L_fld2 (Rd.pers ‹_›) ?_; refine LV_1 (ty rfl) rfl ?_; refine Tm ?_; refine Ti ?_; refine Tl ?_; refine Le ?_; rintro _ _ _ ⟨pn6_2, qn6_2, rfl, fn6_2⟩; refine Tal ?_; intro b6_3; refine Tw u0 ?_; refine On ?_; refine Wr ?_; refine Tf ?_; refine Tl ?_; refine Lo m0 ?_; refine Tc ?_; refine Tm ?_; refine Ugs ?_ ?_ <;> intro c6_4 <;> (first | simp [*] at c6_4; done | try simp at c6_4); refine Tn ?_; refine Tn ?_; refine Tn ?_; refine Tn ?_; refine Tn ?_; refine Tp0 ?_; refine On ?_; refine cond_f rfl ?_; refine WP_skip ?_; refine block_n ?_; refine then_n ?_; refine R_region ?_; refine Tm ?_; refine Ta ?_; refine Tm ?_; refine OPS_nil ?_))
        exact roundF_n (j + 1, n2) (by simp only; omega) ⟨rfl, by simp only; omega, by simp only; rw [htk, hn2]⟩ (by repeat' first | exact sR _ | exact sA _ _ | exact sN _ | apply s2 | apply s1) (by repeat' first | exact trivial | refine ⟨rfl, ?_⟩)
      rw [if_neg hk3] at htk
      by_cases hin : (x1, x2) ∈ reachR vs
      · have hd := deadN_yes (l := objsL (v.objects.take j)) hin
        (focus (refine WP_seq ?_; refine Wr ?_; refine Tm ?_; refine Tf ?_; refine Tf ?_; refine Tl ?_; refine L_fld2 (Rd.pers ‹_›) ?_; refine LV_1 (ty rfl) rfl ?_; refine Tlen ?_; refine Tc ?_; refine On ?_; refine Wc ?_ ?_ <;> intro c7_1 <;> (first | simp [*] at c7_1; done | try simp at c7_1); refine WP_skip ?_; refine then_n ?_; refine WP_seq ?_; refine WP_block ?_; refine Wr ?_; refine Tf ?_; refine Tf ?_; refine Tl ?_; refine L_fld2 (Rd.pers ‹_›) ?_; refine LV_1 (ty rfl) rfl ?_; refine Tm ?_; refine Ti ?_; refine Tl ?_; refine Le ?_; rintro _ _ _ ⟨pn7_2, qn7_2, rfl, fn7_2⟩; refine Tal ?_; intro b7_3; refine Tw u0 ?_; refine On ?_; refine Wr ?_; refine Tf ?_; refine Tl ?_; refine Lo m0 ?_; refine Tc ?_; refine Tm ?_; refine Ugs ?_ ?_ <;> intro c7_4 <;> (first | simp [*] at c7_4; done | try simp at c7_4); refine Ugm ?_; refine Ugf ?_; refine Ugl ?_; refine L_sub (Rd.own m0) (ty rfl) rfl ?_; refine S_gc rfl rfl rfl rfl rfl rfl (C_callv (refHas_s (x := (_, _)) ‹_›) rfl rfl ⟨_, _, rfl, ⟨_, _, rfl, rfl, rfl⟩, rfl⟩ (cal rfl) ?_); refine S_gq rfl rfl rfl rfl rfl rfl (Q_not rfl rfl) ?_; refine Tp1 ?_; refine On ?_; refine Wc ?_ ?_ <;> intro c7_5 <;> (first | simp [*] at c7_5; done | try simp at c7_5); refine WP_skip ?_; refine block_n ?_; refine then_n ?_; refine R_region ?_; refine Tm ?_; refine Ta ?_; refine Tm ?_; refine OPS_nil ?_))
        exact roundF_n (j + 1, n2) (by simp only; omega) ⟨rfl, by simp only; omega, by simp only; rw [htk, hd, hn2]⟩ (by repeat' first | exact sR _ | exact sA _ _ | exact sN _ | apply s2 | apply s1) (by repeat' first | exact trivial | refine ⟨rfl, ?_⟩)
      · have hd := deadN_no (l := objsL (v.objects.take j)) hin
        (focus (refine WP_seq ?_; refine Wr ?_; refine Tm ?_; refine Tf ?_; refine Tf ?_; refine Tl ?_; refine L_fld2 (Rd.pers ‹_›) ?_; refine LV_1 (ty rfl) rfl ?_; refine Tlen ?_; refine Tc ?_; refine On ?_; refine Wc ?_ ?_ <;> intro c8_1 <;> (first | simp [*] at c8_1; done | try simp at c8_1); refine WP_skip ?_; refine then_n ?_; refine WP_seq ?_; refine WP_block ?_; refine Wr ?_; refine Tf ?_; refine Tf ?_; refine Tl ?_; refine L_fld2 (Rd.pers ‹_›) ?_; refine LV_1 (ty rfl) rfl ?_; refine Tm ?_; refine Ti ?_; refine Tl ?_; refine Le ?_; rintro _ _ _ ⟨pn8_2, qn8_2, rfl, fn8_2⟩; refine Tal ?_; intro b8_3; refine Tw u0 ?_; refine On ?_; refine Wr ?_; refine Tf ?_; refine Tl ?_; refine Lo m0 ?_; refine Tc ?_; refine Tm ?_; refine Ugs ?_ ?_ <;> intro c8_4 <;> (first | simp [*] at c8_4; done | try simp at c8_4); refine Ugm ?_; refine Ugf ?_; refine Ugl ?_; refine L_sub (Rd.own m0) (ty rfl) rfl ?_; refine S_gc rfl rfl rfl rfl rfl rfl (C_callv (refHas_s (x := (_, _)) ‹_›) rfl rfl ⟨_, _, rfl, ⟨_, _, rfl, rfl, rfl⟩, rfl⟩ (cal rfl) ?_); refine S_gq rfl rfl rfl rfl rfl rfl (Q_not rfl rfl) ?_; refine Tp1 ?_; refine On ?_; refine Wc ?_ ?_ <;> intro c8_5 <;> (first | simp [*] at c8_5; done | try simp at c8_5); refine R_region ?_; refine Tm ?_; refine Ta ?_; refine Tm ?_; refine OPS_nil ?_; refine block_n ?_; refine then_n ?_; refine R_region ?_; refine Tm ?_; refine Ta ?_; refine Tm ?_; refine OPS_nil ?_))
        exact roundF_n (j + 1, n2 + 1) (by simp only; omega) ⟨rfl, by simp only; omega, by simp only; rw [htk, hd, hn2]; omega⟩ (by repeat' first | exact sR _ | exact sA _ _ | exact sN _ | apply s2 | apply s1) (by repeat' first | exact trivial | refine ⟨rfl, ?_⟩)
    have hge : j = v.objects.length := by omega
    subst hge
    rw [List.take_length, ← viewObjs_def] at hn2
    rw [List.take_length, ← viewObjs_def] at hb2
    (focus (refine WP_seq ?_; refine Wr ?_; refine Tm ?_; refine Tf ?_; refine Tf ?_; refine Tl ?_; refine L_fld2 (Rd.pers ‹_›) ?_; refine LV_1 (ty rfl) rfl ?_; refine Tlen ?_; refine Tc ?_; refine On ?_; refine Wc ?_ ?_ <;> intro c9_1 <;> (first | simp [*] at c9_1; done | try simp at c9_1); refine WP_exit ?_; refine then_e ?_; refine roundF_e ?_; refine block_e ?_; refine then_n ?_; refine WP_seq ?_; refine Wr ?_; refine Tm ?_; refine On ?_; refine WP_block ?_))
    (refine WP_loopC (α := Nat × Nat) [6, 5, 3, 0] (fun (s : Nat × Nat) => v.stubs.length - s.1) (fun (s : Nat × Nat) => [(9, .int .i64 (s.1 : Int)), (4, .int .i64 (s.2 : Int))]) (fun hh (s : Nat × Nat) => hh = h2 ∧ s.1 ≤ v.stubs.length ∧ s.2 = n2 + deadN (reachR vs) ((v.stubs.take s.1).map (·.id))) (0, n2) ⟨_, _, rfl, ⟨_, _, rfl, ⟨_, _, rfl, ⟨_, _, rfl, rfl, rfl⟩, rfl⟩, rfl⟩, rfl⟩ (by repeat' first | exact trivial | refine ⟨rfl, ?_⟩) ?_ ?_)
    · exact ⟨rfl, Nat.zero_le _, by simp [deadN_nil]⟩
    rintro h3 ⟨j, n3⟩ _ ⟨rfl, hj, hn3⟩
    simp only at hj hn3
    dsimp only
    have hb3 := deadN_take_le (reachR vs) ((v.stubs.take j).map (·.id)) 12 (by rw [List.length_map, List.length_take]; omega)
    by_cases hlt3 : j < v.stubs.length
    · obtain ⟨⟨xo, xn, ⟨x1, x2⟩, xw, xd⟩, ex⟩ := get_of hlt3
      have htk := mapid_take (·.id) ex
      simp only at htk
      by_cases hin : (x1, x2) ∈ reachR vs
      · have hd := deadN_yes (l := (v.stubs.take j).map (·.id)) hin
        (focus (refine WP_seq ?_; refine Wr ?_; refine Tm ?_; refine Tf ?_; refine Tl ?_; refine L_fld (Rd.pers ‹_›) (ty rfl) rfl ?_; refine Tlen ?_; refine Tc ?_; refine On ?_; refine Wc ?_ ?_ <;> intro c11_1 <;> (first | simp [*] at c11_1; done | try simp at c11_1); refine WP_skip ?_; refine then_n ?_; refine WP_seq ?_; refine WP_block ?_; refine Wr ?_; refine Tm ?_; refine Tf ?_; refine Tl ?_; refine L_fld (Rd.pers ‹_›) (ty rfl) rfl ?_; refine Tm ?_; refine Ti ?_; refine Tf ?_; refine Tl ?_; refine L_elF ‹_› ‹_› ?_; rintro _ _ _ ⟨xa11_2, xb11_2, xc11_2, xd11_2, xe11_2, xf11_2, rfl⟩; refine LV_a (ty rfl) rfl ?_; refine S_c rfl rfl rfl (C_callv (refHas_s (x := (_, _)) ‹_›) rfl rfl ⟨_, _, rfl, ⟨_, _, rfl, rfl, rfl⟩, rfl⟩ (cal rfl) ?_); refine S_q rfl rfl rfl (Q_not rfl rfl) ?_; refine On ?_; refine Wc ?_ ?_ <;> intro c11_3 <;> (first | simp [*] at c11_3; done | try simp at c11_3); refine WP_skip ?_; refine block_n ?_; refine then_n ?_; refine R_region ?_; refine Tm ?_; refine Ta ?_; refine Tm ?_; refine OPS_nil ?_))
        exact roundF_n (j + 1, n3) (by simp only; omega) ⟨rfl, by simp only; omega, by simp only; rw [htk, hd, hn3]⟩ (by repeat' first | exact sR _ | exact sA _ _ | exact sN _ | apply s2 | apply s1) (by repeat' first | exact trivial | refine ⟨rfl, ?_⟩)
      · have hd := deadN_no (l := (v.stubs.take j).map (·.id)) hin
        (focus (refine WP_seq ?_; refine Wr ?_; refine Tm ?_; refine Tf ?_; refine Tl ?_; refine L_fld (Rd.pers ‹_›) (ty rfl) rfl ?_; refine Tlen ?_; refine Tc ?_; refine On ?_; refine Wc ?_ ?_ <;> intro c12_1 <;> (first | simp [*] at c12_1; done | try simp at c12_1); refine WP_skip ?_; refine then_n ?_; refine WP_seq ?_; refine WP_block ?_; refine Wr ?_; refine Tm ?_; refine Tf ?_; refine Tl ?_; refine L_fld (Rd.pers ‹_›) (ty rfl) rfl ?_; refine Tm ?_; refine Ti ?_; refine Tf ?_; refine Tl ?_; refine L_elF ‹_› ‹_› ?_; rintro _ _ _ ⟨xa12_2, xb12_2, xc12_2, xd12_2, xe12_2, xf12_2, rfl⟩; refine LV_a (ty rfl) rfl ?_; refine S_c rfl rfl rfl (C_callv (refHas_s (x := (_, _)) ‹_›) rfl rfl ⟨_, _, rfl, ⟨_, _, rfl, rfl, rfl⟩, rfl⟩ (cal rfl) ?_); refine S_q rfl rfl rfl (Q_not rfl rfl) ?_; refine On ?_; refine Wc ?_ ?_ <;> intro c12_3 <;> (first | simp [*] at c12_3; done | try simp at c12_3); refine R_region ?_; refine Tm ?_; refine Ta ?_; refine Tm ?_; refine OPS_nil ?_; refine block_n ?_; refine then_n ?_; refine R_region ?_; refine Tm ?_; refine Ta ?_; refine Tm ?_; refine OPS_nil ?_))
        exact roundF_n (j + 1, n3 + 1) (by simp only; omega) ⟨rfl, by simp only; omega, by simp only; rw [htk, hd, hn3]; omega⟩ (by repeat' first | exact sR _ | exact sA _ _ | exact sN _ | apply s2 | apply s1) (by repeat' first | exact trivial | refine ⟨rfl, ?_⟩)
    have hge : j = v.stubs.length := by omega
    subst hge
    rw [List.take_length] at hn3 hb3
    (focus (refine WP_seq ?_; refine Wr ?_; refine Tm ?_; refine Tf ?_; refine Tl ?_; refine L_fld (Rd.pers ‹_›) (ty rfl) rfl ?_; refine Tlen ?_; refine Tc ?_; refine On ?_; refine Wc ?_ ?_ <;> intro c13_1 <;> (first | simp [*] at c13_1; done | try simp at c13_1); refine WP_exit ?_; refine then_e ?_; refine roundF_e ?_; refine block_e ?_; refine then_n ?_; refine Wr ?_; refine Tm ?_; refine On ?_; refine WP_block ?_))
    (refine WP_loopC (α := Nat × Nat) [6, 5, 3, 0] (fun (s : Nat × Nat) => v.scions.length - s.1) (fun (s : Nat × Nat) => [(10, .int .i64 (s.1 : Int)), (4, .int .i64 (s.2 : Int))]) (fun hh (s : Nat × Nat) => hh = h3 ∧ s.1 ≤ v.scions.length ∧ s.2 = n3 + deadN (reachR vs) ((v.scions.take s.1).map (·.id))) (0, n3) ⟨_, _, rfl, ⟨_, _, rfl, ⟨_, _, rfl, ⟨_, _, rfl, rfl, rfl⟩, rfl⟩, rfl⟩, rfl⟩ (by repeat' first | exact trivial | refine ⟨rfl, ?_⟩) ?_ ?_)
    · exact ⟨rfl, Nat.zero_le _, by simp [deadN_nil]⟩
    rintro h4 ⟨j, n4⟩ _ ⟨rfl, hj, hn4⟩
    simp only at hj hn4
    dsimp only
    have hb4 := deadN_take_le (reachR vs) ((v.scions.take j).map (·.id)) 12 (by rw [List.length_map, List.length_take]; omega)
    by_cases hlt4 : j < v.scions.length
    · obtain ⟨⟨xo, xn, ⟨x1, x2⟩⟩, ex⟩ := get_of hlt4
      have htk := mapid_take (·.id) ex
      simp only at htk
      by_cases hin : (x1, x2) ∈ reachR vs
      · have hd := deadN_yes (l := (v.scions.take j).map (·.id)) hin
        (focus (refine WP_seq ?_; refine Wr ?_; refine Tm ?_; refine Tf ?_; refine Tl ?_; refine L_fld (Rd.pers ‹_›) (ty rfl) rfl ?_; refine Tlen ?_; refine Tc ?_; refine On ?_; refine Wc ?_ ?_ <;> intro c15_1 <;> (first | simp [*] at c15_1; done | try simp at c15_1); refine WP_skip ?_; refine then_n ?_; refine WP_seq ?_; refine WP_block ?_; refine Wr ?_; refine Tm ?_; refine Tf ?_; refine Tl ?_; refine L_fld (Rd.pers ‹_›) (ty rfl) rfl ?_; refine Tm ?_; refine Ti ?_; refine Tf ?_; refine Tl ?_; refine L_elF ‹_› ‹_› ?_; rintro _ _ _ ⟨xa15_2, xb15_2, xc15_2, xd15_2, xe15_2, xf15_2, xg15_2, xh15_2, rfl⟩; refine LV_a (ty rfl) rfl ?_; refine S_c rfl rfl rfl (C_callv (refHas_s (x := (_, _)) ‹_›) rfl rfl ⟨_, _, rfl, ⟨_, _, rfl, rfl, rfl⟩, rfl⟩ (cal rfl) ?_); refine S_q rfl rfl rfl (Q_not rfl rfl) ?_; refine On ?_; refine Wc ?_ ?_ <;> intro c15_3 <;> (first | simp [*] at c15_3; done | try simp at c15_3); refine WP_skip ?_; refine block_n ?_; refine then_n ?_; refine R_region ?_; refine Tm ?_; refine Ta ?_; refine Tm ?_; refine OPS_nil ?_))
        exact roundF_n (j + 1, n4) (by simp only; omega) ⟨rfl, by simp only; omega, by simp only; rw [htk, hd, hn4]⟩ (by repeat' first | exact sR _ | exact sA _ _ | exact sN _ | apply s2 | apply s1) (by repeat' first | exact trivial | refine ⟨rfl, ?_⟩)
      · have hd := deadN_no (l := (v.scions.take j).map (·.id)) hin
        (focus (refine WP_seq ?_; refine Wr ?_; refine Tm ?_; refine Tf ?_; refine Tl ?_; refine L_fld (Rd.pers ‹_›) (ty rfl) rfl ?_; refine Tlen ?_; refine Tc ?_; refine On ?_; refine Wc ?_ ?_ <;> intro c16_1 <;> (first | simp [*] at c16_1; done | try simp at c16_1); refine WP_skip ?_; refine then_n ?_; refine WP_seq ?_; refine WP_block ?_; refine Wr ?_; refine Tm ?_; refine Tf ?_; refine Tl ?_; refine L_fld (Rd.pers ‹_›) (ty rfl) rfl ?_; refine Tm ?_; refine Ti ?_; refine Tf ?_; refine Tl ?_; refine L_elF ‹_› ‹_› ?_; rintro _ _ _ ⟨xa16_2, xb16_2, xc16_2, xd16_2, xe16_2, xf16_2, xg16_2, xh16_2, rfl⟩; refine LV_a (ty rfl) rfl ?_; refine S_c rfl rfl rfl (C_callv (refHas_s (x := (_, _)) ‹_›) rfl rfl ⟨_, _, rfl, ⟨_, _, rfl, rfl, rfl⟩, rfl⟩ (cal rfl) ?_); refine S_q rfl rfl rfl (Q_not rfl rfl) ?_; refine On ?_; refine Wc ?_ ?_ <;> intro c16_3 <;> (first | simp [*] at c16_3; done | try simp at c16_3); refine R_region ?_; refine Tm ?_; refine Ta ?_; refine Tm ?_; refine OPS_nil ?_; refine block_n ?_; refine then_n ?_; refine R_region ?_; refine Tm ?_; refine Ta ?_; refine Tm ?_; refine OPS_nil ?_))
        exact roundF_n (j + 1, n4 + 1) (by simp only; omega) ⟨rfl, by simp only; omega, by simp only; rw [htk, hd, hn4]; omega⟩ (by repeat' first | exact sR _ | exact sA _ _ | exact sN _ | apply s2 | apply s1) (by repeat' first | exact trivial | refine ⟨rfl, ?_⟩)
    have hge : j = v.scions.length := by omega
    subst hge
    rw [List.take_length] at hn4 hb4
    (focus (refine WP_seq ?_; refine Wr ?_; refine Tm ?_; refine Tf ?_; refine Tl ?_; refine L_fld (Rd.pers ‹_›) (ty rfl) rfl ?_; refine Tlen ?_; refine Tc ?_; refine On ?_; refine Wc ?_ ?_ <;> intro c17_1 <;> (first | simp [*] at c17_1; done | try simp at c17_1); refine WP_exit ?_; refine then_e ?_; refine roundF_e ?_; refine block_e ?_; refine block_n ?_; refine then_n ?_; refine R_region ?_; refine Tm ?_; refine Ta ?_; refine Tm ?_; refine OPS_nil ?_))
    refine roundF_n (k + 1, n4) (by simp only; omega) ⟨le_trans hl1 l4_k, by simp only; omega, ?_⟩ (by repeat' first | exact sR _ | exact sA _ _ | exact sN _ | apply s2 | apply s1) (by repeat' first | exact trivial | refine ⟨rfl, ?_⟩)
    simp only; rw [hsum, ← hn, hn4, hn3, hn2, garbageOf_def]; omega
  · have hge : k = vs.length := by omega
    subst hge
    rw [List.take_length] at hn
    (focus (refine WP_seq ?_; refine Wr ?_; refine Tm ?_; refine Tm ?_; refine Tlen ?_; refine Tc ?_; refine On ?_; refine Wc ?_ ?_ <;> intro c18_1 <;> (first | simp [*] at c18_1; done | try simp at c18_1); refine WP_exit ?_; refine then_e ?_; refine roundF_e ?_; refine block_e ?_; refine then_n ?_; refine Wr ?_; refine Tm ?_; refine Tm ?_; refine On ?_; refine WP_ret ?_))
    refine pret (.inl rfl) rfl ⟨_, _, rfl, rfl, rfl⟩ ?_
    simp only [resOf]; rw [hn, garbageR]
end Go.Proofs.YtfhoecgiahpddaaGreat
/-
  CONTRACTS: Example and awake (refmeshlaw55).
-/
set_option linter.all false
namespace Go.Proofs.YtfhoecgiahpddaaGreat
open Go.Mesh Go.RowKit
set_option maxRecDepth 100000
set_option linter.unusedVariables false
set_option maxHeartbeats 4000000
attribute [local irreducible] WP OPS ANY ANYo LG LV FSpec PSpec QOP OPc OPw thenQ blockQ roundQ roundF retQ retM Rd At SLB OS cmpI orI cmpID namedB valB nodeB kindB validG valAux idxI findG zeroV viewOf vwAt idxOf recv flyB scionOf moveOf numberedOf idOf valueOf mget mput localB carriedB stubOf followF followOf flOf flightsOf flPre setL minusL compactL putI mergeN insN insAll unionR NMap Coll retN bodyS GMap Dfs refsV refsOf reachL movedOf movedG graphParts graphR isMove flightIDs mailIDs viewIDs rawRoots rootsR reachR deadN viewObjs garbageOf garbageR objsL thereB oddB badNode lostF badStub safe1 safe2 safe3 safe4 safeR msgB sizesB smallV fewB
def exA : Nd := ⟨(1, 1), 1, 2, [(2, 0, (2, 1))]⟩
def exB : Nd := ⟨(2, 1), 3, 1, []⟩
def exB2 : Nd := ⟨(2, 1), 0, 1, []⟩
def exC : Nd := ⟨(2, 2), 0, 1, []⟩
def exV : List View := [⟨1, [exA, exB], [⟨2, 7, (2, 1), false, false⟩], [], [(1, 1)], [], [], []⟩, ⟨2, [exB2, exC], [], [⟨1, 7, (2, 1)⟩], [], [], [], []⟩]
theorem at_of {h : Frag} {b t : Nat} {l : List Value} (e : h b = some (cells l t)) : At h b 0 l := at_of_keep fun p hp => by rw [List.mem_singleton.1 hp]; exact e
theorem example_s {h : Frag} : PSpec Tryz.prog 31 #[] h (fun h' v => ∃ p c, v = .slice p exV.length c ∧ SL h' 13 (ViewC 4398046511104) (.slice p exV.length c) exV) := by
  refine pspec_of (vs := []) Tryz.func31 Tryz.ntmps31 rfl rfl ?_
  (focus (refine Wr ?_; refine Tm ?_; refine On ?_; refine Wr ?_; refine S_q rfl rfl rfl (Q_build rfl (by decide +kernel) (zer rfl) ⟨_, _, _, _, _, _, _, rfl, fld rfl rfl, ty rfl, rfl, rfl, ⟨_, _, _, _, _, _, _, rfl, fld rfl rfl, ty rfl, rfl, rfl, rfl, rfl⟩, rfl⟩ rfl) ?_; refine S_q rfl rfl rfl (Q_build rfl (by decide +kernel) (zer rfl) ⟨_, _, _, _, _, _, _, rfl, fld rfl rfl, ty rfl, rfl, rfl, ⟨_, _, _, _, _, _, _, rfl, fld rfl rfl, ty rfl, rfl, rfl, rfl, rfl⟩, rfl⟩ rfl) ?_; refine S_q rfl rfl rfl (Q_build rfl (by decide +kernel) (zer rfl) ⟨_, _, _, _, _, _, _, rfl, fld rfl rfl, ty rfl, rfl, rfl, ⟨_, _, _, _, _, _, _, rfl, fld rfl rfl, ty rfl, rfl, rfl, rfl, rfl⟩, rfl⟩ rfl) ?_; refine Tal ?_; intro b0_1; refine Tal ?_; intro b0_2; refine Tal ?_; intro b0_3; refine Tw u2 ?_; refine Tw u1 ?_; refine Tw u0 ?_; refine On ?_; refine Wr ?_; refine Tl ?_; refine Lg m2 ?_; refine Tl ?_; refine Lg m1 ?_; refine S_q rfl rfl rfl (Q_build rfl (by decide +kernel) (zer rfl) ⟨_, _, _, _, _, _, _, rfl, fld rfl rfl, ty rfl, rfl, rfl, ⟨_, _, _, _, _, _, _, rfl, fld rfl rfl, ty rfl, rfl, rfl, rfl, rfl⟩, rfl⟩ rfl) ?_; refine S_c rfl rfl rfl (C_buildSlice rfl (elm rfl) (zer rfl) rfl ⟨_, _, _, rfl, rfl, rfl, rfl, rfl, rfl⟩ rfl rfl ?_); intro b0_4; refine S_q rfl rfl rfl (Q_build rfl (by decide +kernel) (zer rfl) ⟨_, _, _, _, _, _, _, rfl, fld rfl rfl, ty rfl, rfl, rfl, ⟨_, _, _, _, _, _, _, rfl, fld rfl rfl, ty rfl, rfl, rfl, ⟨_, _, _, _, _, _, _, rfl, fld rfl rfl, ty rfl, rfl, rfl, ⟨_, _, _, _, _, _, _, rfl, fld rfl rfl, ty rfl, rfl, rfl, rfl, rfl⟩, rfl⟩, rfl⟩, rfl⟩ rfl) ?_; refine Tl ?_; refine Lg m2 ?_; refine S_q rfl rfl rfl (Q_build rfl (by decide +kernel) (zer rfl) ⟨_, _, _, _, _, _, _, rfl, fld rfl rfl, ty rfl, rfl, rfl, ⟨_, _, _, _, _, _, _, rfl, fld rfl rfl, ty rfl, rfl, rfl, ⟨_, _, _, _, _, _, _, rfl, fld rfl rfl, ty rfl, rfl, rfl, rfl, rfl⟩, rfl⟩, rfl⟩ rfl) ?_; refine S_c rfl rfl rfl (C_buildSlice rfl (elm rfl) (zer rfl) rfl ⟨_, _, _, rfl, rfl, rfl, rfl, ⟨_, _, _, rfl, rfl, rfl, rfl, rfl, rfl⟩, rfl⟩ rfl rfl ?_); intro b0_5; refine S_q rfl rfl rfl (Q_build rfl (by decide +kernel) (zer rfl) ⟨_, _, _, _, _, _, _, rfl, fld rfl rfl, ty rfl, rfl, rfl, rfl, rfl⟩ rfl) ?_; refine Tl ?_; refine Lg m3 ?_; refine S_q rfl rfl rfl (Q_build rfl (by decide +kernel) (zer rfl) ⟨_, _, _, _, _, _, _, rfl, fld rfl rfl, ty rfl, rfl, rfl, ⟨_, _, _, _, _, _, _, rfl, fld rfl rfl, ty rfl, rfl, rfl, ⟨_, _, _, _, _, _, _, rfl, fld rfl rfl, ty rfl, rfl, rfl, ⟨_, _, _, _, _, _, _, rfl, fld rfl rfl, ty rfl, rfl, rfl, rfl, rfl⟩, rfl⟩, rfl⟩, rfl⟩ rfl) ?_; refine S_c rfl rfl rfl (C_buildSlice rfl (elm rfl) (zer rfl) rfl ⟨_, _, _, rfl, rfl, rfl, rfl, rfl, rfl⟩ rfl rfl ?_); intro b0_6; refine Tl ?_; refine Lg m5 ?_; refine S_q rfl rfl rfl (Q_build rfl (by decide +kernel) (zer rfl) ⟨_, _, _, _, _, _, _, rfl, fld rfl rfl, ty rfl, rfl, rfl, ⟨_, _, _, _, _, _, _, rfl, fld rfl rfl, ty rfl, rfl, rfl, rfl, rfl⟩, rfl⟩ rfl) ?_; refine S_c rfl rfl rfl (C_buildSlice rfl (elm rfl) (zer rfl) rfl ⟨_, _, _, rfl, rfl, rfl, rfl, rfl, rfl⟩ rfl rfl ?_); intro b0_7; refine S_q rfl rfl rfl (Q_build rfl (by decide +kernel) (zer rfl) ⟨_, _, _, _, _, _, _, rfl, fld rfl rfl, ty rfl, rfl, rfl, ⟨_, _, _, _, _, _, _, rfl, fld rfl rfl, ty rfl, rfl, rfl, ⟨_, _, _, _, _, _, _, rfl, fld rfl rfl, ty rfl, rfl, rfl, ⟨_, _, _, _, _, _, _, rfl, fld rfl rfl, ty rfl, rfl, rfl, rfl, rfl⟩, rfl⟩, rfl⟩, rfl⟩ rfl) ?_; refine Tl ?_; refine Lg m5 ?_; refine S_q rfl rfl rfl (Q_build rfl (by decide +kernel) (zer rfl) ⟨_, _, _, _, _, _, _, rfl, fld rfl rfl, ty rfl, rfl, rfl, ⟨_, _, _, _, _, _, _, rfl, fld rfl rfl, ty rfl, rfl, rfl, rfl, rfl⟩, rfl⟩ rfl) ?_; refine Tl ?_; refine Lg m4 ?_; refine S_q rfl rfl rfl (Q_build rfl (by decide +kernel) (zer rfl) ⟨_, _, _, _, _, _, _, rfl, fld rfl rfl, ty rfl, rfl, rfl, ⟨_, _, _, _, _, _, _, rfl, fld rfl rfl, ty rfl, rfl, rfl, rfl, rfl⟩, rfl⟩ rfl) ?_; refine S_c rfl rfl rfl (C_buildSlice rfl (elm rfl) (zer rfl) rfl ⟨_, _, _, rfl, rfl, rfl, rfl, ⟨_, _, _, rfl, rfl, rfl, rfl, rfl, rfl⟩, rfl⟩ rfl rfl ?_); intro b0_8; refine S_q rfl rfl rfl (Q_build rfl (by decide +kernel) (zer rfl) ⟨_, _, _, _, _, _, _, rfl, fld rfl rfl, ty rfl, rfl, rfl, rfl, rfl⟩ rfl) ?_; refine Tl ?_; refine Lg m6 ?_; refine S_q rfl rfl rfl (Q_build rfl (by decide +kernel) (zer rfl) ⟨_, _, _, _, _, _, _, rfl, fld rfl rfl, ty rfl, rfl, rfl, ⟨_, _, _, _, _, _, _, rfl, fld rfl rfl, ty rfl, rfl, rfl, ⟨_, _, _, _, _, _, _, rfl, fld rfl rfl, ty rfl, rfl, rfl, rfl, rfl⟩, rfl⟩, rfl⟩ rfl) ?_; refine S_c rfl rfl rfl (C_buildSlice rfl (elm rfl) (zer rfl) rfl ⟨_, _, _, rfl, rfl, rfl, rfl, rfl, rfl⟩ rfl rfl ?_); intro b0_9; refine S_q rfl rfl rfl (Q_build rfl (by decide +kernel) (zer rfl) ⟨_, _, _, _, _, _, _, rfl, fld rfl rfl, ty rfl, rfl, rfl, ⟨_, _, _, _, _, _, _, rfl, fld rfl rfl, ty rfl, rfl, rfl, ⟨_, _, _, _, _, _, _, rfl, fld rfl rfl, ty rfl, rfl, rfl, rfl, rfl⟩, rfl⟩, rfl⟩ rfl) ?_; refine S_c rfl rfl rfl (C_buildSlice rfl (elm rfl) (zer rfl) rfl ⟨_, _, _, rfl, rfl, rfl, rfl, ⟨_, _, _, rfl, rfl, rfl, rfl, rfl, rfl⟩, rfl⟩ rfl rfl ?_); intro b0_10; refine Tm ?_; refine On ?_; refine WP_ret ?_))
  refine pretK [] _ rfl (.inl rfl) rfl ⟨_, _, rfl, rfl, rfl⟩ fun h' hl' hm => ?_
  have e10 := hm _ m0
  have e9 := hm _ m1
  have e8 := hm _ m2
  have e7 := hm _ m3
  have e6 := hm _ m4
  have e5 := hm _ m5
  have e4 := hm _ m6
  clear hm
  have s4 : SL h' 4 ValC (.slice (some ⟨b0_4, 0, none⟩) 1 1) exA.fields := slb_of_at (at_of e4) (Flat.one rfl rfl rfl) (by decide)
  have s5 : SL h' 5 (NodeC 4398046511104) (.slice (some ⟨b0_5, 0, none⟩) 2 2) [exA, exB] := slb_of_at (at_of e5) (Flat.append (Flat.one rfl rfl ⟨_, _, rfl, s4⟩) (Flat.one rfl rfl ⟨_, _, rfl, SLB.nil _ _ _ _ _ _⟩)) (by decide)
  have s6 : SL h' 12 StubC (.slice (some ⟨b0_6, 0, none⟩) 1 1) [⟨2, 7, (2, 1), false, false⟩] := slb_of_at (at_of e6) (Flat.one rfl rfl ⟨_, _, _, _, _, _, rfl⟩) (by decide)
  have s7 : SL h' 3 NamedC (.slice (some ⟨b0_7, 0, none⟩) 1 1) [(1, 1)] := slb_of_at (at_of e7) (Flat.one rfl rfl ⟨_, rfl⟩) (by decide)
  have s8 : SL h' 5 (NodeC 4398046511104) (.slice (some ⟨b0_8, 0, none⟩) 2 2) [exB2, exC] := slb_of_at (at_of e8) (Flat.append (Flat.one rfl rfl ⟨_, _, rfl, SLB.nil _ _ _ _ _ _⟩) (Flat.one rfl rfl ⟨_, _, rfl, SLB.nil _ _ _ _ _ _⟩)) (by decide)
  have s9 : SL h' 12 ScionC (.slice (some ⟨b0_9, 0, none⟩) 1 1) [⟨1, 7, (2, 1)⟩] := slb_of_at (at_of e9) (Flat.one rfl rfl ⟨_, _, _, _, _, _, _, _, rfl⟩) (by decide)
  refine ⟨some ⟨b0_10, 0, none⟩, 2, rfl, slb_of_at (at_of e10) (Flat.append (Flat.one rfl rfl ⟨by unfold inI64; decide, _, _, _, _, _, _, _, _, _, _, _, _, _, _, _, _, _, _, _, rfl, s5, s6, ?_, s7, ?_, ?_, ?_⟩) (Flat.one rfl rfl ⟨by unfold inI64; decide, _, _, _, _, _, _, _, _, _, _, _, _, _, _, _, _, _, _, _, rfl, s8, ?_, s9, ?_, ?_, ?_, ?_⟩)) (by decide)⟩
  all_goals exact SLB.nil _ _ _ _ _ _
end Go.Proofs.YtfhoecgiahpddaaGreat
/-
  CONTRACT: awake (refmeshlaw55): the example of the chapter.
-/
set_option linter.all false
namespace Go.Proofs.YtfhoecgiahpddaaGreat
open Go.Mesh Go.RowKit
set_option maxRecDepth 100000
set_option linter.unusedVariables false
set_option maxHeartbeats 4000000
attribute [local irreducible] WP OPS ANY ANYo LG LV FSpec PSpec QOP OPc OPw thenQ blockQ roundQ roundF retQ retM Rd At SLB OS cmpI orI cmpID namedB valB nodeB kindB validG valAux idxI findG zeroV viewOf vwAt idxOf recv flyB scionOf moveOf numberedOf idOf valueOf mget mput localB carriedB stubOf followF followOf flOf flightsOf flPre setL minusL compactL putI mergeN insN insAll unionR NMap Coll retN bodyS GMap Dfs refsV refsOf reachL movedOf movedG graphParts graphR isMove flightIDs mailIDs viewIDs rawRoots rootsR reachR deadN viewObjs garbageOf garbageR objsL thereB oddB badNode lostF badStub safe1 safe2 safe3 safe4 safeR msgB sizesB smallV fewB
theorem ex_graph : graphR exV = ([exA, exB2, exC], 0) := by decide +kernel
theorem ex_roots : rootsR exV = [(1, 1)] := by decide +kernel
theorem ex_follow : followOf exV 1 (2, 1) = ([1, 2], 0) := by decide +kernel
theorem ex_reach : reachL [exA, exB2, exC] [(1, 1)] = [(1, 1), (2, 1)] := by
  refine SI_unique (SI_reachL _ _) (by unfold SI; decide +kernel) fun x => ?_
  rw [mem_reachL]
  have h1 : findG [exA, exB2, exC] (1, 1) = some exA := by decide +kernel
  have h2 : findG [exA, exB2, exC] (2, 1) = some exB2 := by decide +kernel
  have r1 : Reach [exA, exB2, exC] [(1, 1)] (1, 1) := .root (by simp) h1
  have r2 : Reach [exA, exB2, exC] [(1, 1)] (2, 1) := .step r1 h1 (by decide +kernel) h2
  constructor
  · intro h
    induction h with
    | root h1 _ => simp at h1; simp [h1]
    | step _ hm hx _ ih =>
      simp only [List.mem_cons, List.not_mem_nil, or_false] at ih
      rcases ih with rfl | rfl
      · rw [h1] at hm; cases hm
        have : refsOf exA = [(2, 1)] := by decide +kernel
        rw [this] at hx; simp at hx; simp [hx]
      · rw [h2] at hm; cases hm
        have : refsOf exB2 = [] := by decide +kernel
        rw [this] at hx; simp at hx
  · intro h
    simp only [List.mem_cons, List.not_mem_nil, or_false] at h
    rcases h with rfl | rfl
    · exact r1
    · exact r2
theorem ex_reachR : reachR exV = [(1, 1), (2, 1)] := by rw [reachR, ex_graph, ex_roots]; exact ex_reach
theorem ex_garbage : garbageR exV = 1 := by rw [garbageR, ex_reachR]; decide +kernel
theorem ex_safe : safeR exV = 0 := by rw [safeR, ex_graph, ex_roots, ex_reach]; decide +kernel
theorem ex_small : Small exV where
  len := by decide
  objs := by decide
  stubs := by decide
  scions := by decide
  names := by decide
  mail := by decide
  flights := by decide
  received := by decide
  fields := by decide
  args := by decide
  letter := by decide
  moved := by decide
  pmail := by decide
  pargs := by decide
theorem awake_s {h : Frag} : PSpec Tryz.prog 9 #[] h (fun _ v => v = .bool true) := by
  have hsm := ex_small
  have hlen := hsm.len
  have hr := ex_reachR
  refine pspec_of (vs := []) Tryz.func9 Tryz.ntmps9 rfl rfl ?_
  (focus (refine Wr ?_; refine Tm ?_; refine On ?_; refine Wr ?_; refine S_c rfl rfl rfl (C_call (example_s) rfl rfl rfl (cal rfl) ?_); rintro h0_1 _ l0_1 ⟨pe0_1, qe0_1, rfl, fe0_1⟩; refine Tm ?_; refine On ?_; refine Wr ?_; refine Tm ?_; refine S_q rfl rfl rfl (Q_build rfl (by decide +kernel) (zer rfl) ⟨_, _, _, _, _, _, _, rfl, fld rfl rfl, ty rfl, rfl, rfl, ⟨_, _, _, _, _, _, _, rfl, fld rfl rfl, ty rfl, rfl, rfl, rfl, rfl⟩, rfl⟩ rfl) ?_; refine S_c rfl rfl rfl (C_call (follow_s (id := (_, _)) ‹_› (by omega)) rfl rfl ⟨_, _, rfl, ⟨_, _, rfl, ⟨_, _, rfl, rfl, rfl⟩, rfl⟩, rfl⟩ (cal rfl) ?_); rintro h0_2 _ l0_2 ⟨p0_2, q0_2, rfl, f0_2⟩; replace fe0_1 := fe0_1.up l0_2; refine Tm ?_; refine Tx ?_; refine Tx ?_; refine Tm ?_; refine Tm ?_; refine On ?_; refine Wr ?_; refine Tm ?_; refine S_c rfl rfl rfl (C_call (graph_s ‹_› ‹_›) rfl rfl ⟨_, _, rfl, rfl, rfl⟩ (cal rfl) ?_); rintro h0_3 _ l0_3 ⟨_, rfl, pg0_3, qg0_3, rfl, fg0_3⟩; replace f0_2 := f0_2.up l0_3; replace fe0_1 := fe0_1.up l0_3; refine Tm ?_; refine Tx ?_; refine Tx ?_; refine Tal ?_; intro b0_4; refine Tw u0 ?_; refine Tm ?_; refine On ?_; refine Wr ?_; refine Tm ?_; refine Tc ?_; refine Tm ?_; refine Ugs ?_ ?_ <;> intro c0_5 <;> (first | simp [*] at c0_5; done | try simp at c0_5); (focus (refine Ugm ?_; refine S_gc rfl rfl rfl rfl rfl rfl (C_buildSlice rfl (elm rfl) (zer rfl) rfl ⟨_, _, _, rfl, rfl, rfl, rfl, ⟨_, _, _, rfl, rfl, rfl, rfl, rfl, rfl⟩, rfl⟩ rfl rfl ?_); intro b0_6)); rotate_left 1; (focus (refine Tn ?_; refine Tn ?_; refine Tn ?_; refine Tp0 ?_; refine Tm ?_; refine Tn ?_; refine Tn ?_; refine Tn ?_; refine Tn ?_; refine Tp0 ?_; refine Tm ?_; refine Tn ?_; refine Tn ?_; refine Tn ?_; refine Tp0 ?_; refine Tm ?_; refine Tn ?_; refine Tn ?_; refine Tp0 ?_; refine Tm ?_; refine Tn ?_; refine Tn ?_; refine Tn ?_; refine Tn ?_; refine Tp0 ?_; refine Tm ?_; refine Tn ?_; refine Tn ?_; refine Tn ?_; refine Tp0 ?_; refine Tm ?_; refine On ?_; refine WP_ret ?_)); rotate_left 1))
  · (focus (refine OPS_keepM [] [_] _ rfl ?_; rintro h1_k l1_k k1_k; have a1_k := at_of_keep k1_k; clear k1_k; replace fg0_3 := fg0_3.up l1_k; replace f0_2 := f0_2.up l1_k; replace fe0_1 := fe0_1.up l1_k))
    have hy : SL h1_k 1 IntC (.slice (some ⟨b0_6, 0, none⟩) 2 2) [1, 2] := slb_of_at a1_k (Flat.append (Flat.one rfl rfl rfl) (Flat.one rfl rfl rfl)) (by decide)
    refine S_gc rfl rfl rfl rfl rfl rfl (C_callv (ints_s f0_2 hy) rfl rfl ⟨_, _, rfl, ⟨_, _, rfl, rfl, rfl⟩, rfl⟩ (cal rfl) ?_)
    (focus (refine Tp1 ?_; refine Tm ?_; refine Ugs ?_ ?_ <;> intro c2_1 <;> (first | simp [*] at c2_1; done | try simp at c2_1); (focus (refine Ugm ?_; refine S_gc rfl rfl rfl rfl rfl rfl (C_call (reachable_s ‹_› ‹_›) rfl rfl ⟨_, _, rfl, rfl, rfl⟩ (cal rfl) ?_); rintro h2_2 _ l2_2 ⟨p2_2, q2_2, rfl, f2_2⟩; replace a1_k := a1_k.up l2_2; replace fg0_3 := fg0_3.up l2_2; replace f0_2 := f0_2.up l2_2; replace fe0_1 := fe0_1.up l2_2; replace hy := hy.up l2_2; refine S_gq rfl rfl rfl rfl rfl rfl (Q_len rfl rfl rfl rfl rfl rfl) ?_; refine Ugc ?_; refine Tp1 ?_; refine Tm ?_; refine Ugs ?_ ?_ <;> intro c2_3 <;> (first | simp [*] at c2_3; done | try simp at c2_3); refine Ugm ?_; refine S_gc rfl rfl rfl rfl rfl rfl (C_callv (garbage_s ‹_› ‹_›) rfl rfl ⟨_, _, rfl, rfl, rfl⟩ (cal rfl) ?_); refine Ugc ?_; refine Tp1 ?_; refine Tm ?_; refine Ugs ?_ ?_ <;> intro c2_4 <;> (first | simp [*] at c2_4; done | try simp at c2_4); (focus (refine Ugm ?_; refine Ugc ?_; refine Tp1 ?_; refine Tm ?_; refine Ugs ?_ ?_ <;> intro c2_5 <;> (first | simp [*] at c2_5; done | try simp at c2_5); (focus (refine Ugf ?_; refine Ugl ?_; refine L_one (Rd.own m0) (ty rfl) ?_; refine S_gq rfl rfl rfl rfl rfl rfl (Q_len rfl rfl rfl rfl rfl rfl) ?_; refine Ugc ?_; refine Tp1 ?_; refine Tm ?_; refine Ugs ?_ ?_ <;> intro c2_6 <;> (first | simp [*] at c2_6; done | try simp at c2_6); (focus (refine Ugm ?_; refine S_gc rfl rfl rfl rfl rfl rfl (C_callv (safe_s ‹_› ‹_›) rfl rfl ⟨_, _, rfl, rfl, rfl⟩ (cal rfl) ?_); refine Ugc ?_; refine Tp1 ?_; refine Tm ?_; refine On ?_; refine WP_ret ?_)); rotate_left 1; (focus (refine Tn ?_; refine Tn ?_; refine Tn ?_; refine Tp0 ?_; refine Tm ?_; refine On ?_; refine WP_ret ?_)); rotate_left 1)); rotate_left 2; (focus (refine Tn ?_; refine Tn ?_; refine Tn ?_; refine Tn ?_; refine Tp0 ?_; refine Tm ?_; refine Tn ?_; refine Tn ?_; refine Tn ?_; refine Tp0 ?_; refine Tm ?_; refine On ?_; refine WP_ret ?_)); rotate_left 1)); rotate_left 3; (focus (refine Tn ?_; refine Tn ?_; refine Tp0 ?_; refine Tm ?_; refine Tn ?_; refine Tn ?_; refine Tn ?_; refine Tn ?_; refine Tp0 ?_; refine Tm ?_; refine Tn ?_; refine Tn ?_; refine Tn ?_; refine Tp0 ?_; refine Tm ?_; refine On ?_; refine WP_ret ?_)); rotate_left 1)); rotate_left 4; (focus (refine Tn ?_; refine Tn ?_; refine Tn ?_; refine Tn ?_; refine Tp0 ?_; refine Tm ?_; refine Tn ?_; refine Tn ?_; refine Tn ?_; refine Tp0 ?_; refine Tm ?_; refine Tn ?_; refine Tn ?_; refine Tp0 ?_; refine Tm ?_; refine Tn ?_; refine Tn ?_; refine Tn ?_; refine Tn ?_; refine Tp0 ?_; refine Tm ?_; refine Tn ?_; refine Tn ?_; refine Tn ?_; refine Tp0 ?_; refine Tm ?_; refine On ?_; refine WP_ret ?_)); rotate_left 1))
    · refine pret (.inl rfl) rfl ⟨_, _, rfl, rfl, rfl⟩ ?_
      simp only [resOf]; rw [ex_safe]; rfl
    · exact absurd (by rw [ex_graph]; rfl) c2_6
    · exact absurd (by rw [ex_graph]) c2_5
    · exact absurd (by rw [ex_garbage]; rfl) c2_4
    · exact absurd (by rw [ex_follow]) c2_1
  · exact absurd (by rw [ex_follow]) c0_5
end Go.Proofs.YtfhoecgiahpddaaGreat
/-
  WHAT THE LAWS SHARE: small views are few and small; maps of identities to true.
-/
set_option linter.all false
namespace Go.Proofs.YtfhoecgiahpddaaGreat
open Go.Mesh Go.RowKit
set_option maxRecDepth 100000
set_option linter.unusedVariables false
set_option maxHeartbeats 4000000
attribute [local irreducible] WP OPS ANY ANYo LG LV FSpec PSpec QOP OPc OPw thenQ blockQ roundQ roundF retQ retM Rd At SLB OS cmpI orI cmpID namedB valB nodeB kindB validG valAux idxI findG zeroV viewOf vwAt idxOf recv flyB scionOf moveOf numberedOf idOf valueOf mget mput localB carriedB stubOf followF followOf flOf flightsOf flPre setL minusL compactL putI mergeN insN insAll unionR NMap Coll retN bodyS GMap Dfs refsV refsOf reachL movedOf movedG graphParts graphR isMove flightIDs mailIDs viewIDs rawRoots rootsR reachR deadN viewObjs garbageOf garbageR objsL thereB oddB badNode lostF badStub safe1 safe2 safe3 safe4 safeR msgB sizesB smallV fewB
theorem SLB.cast {α : Type} {B B' : Nat} {h : Frag} {k : Nat} {C C' : CR α} {v : Value} {xs : List α} (x : SLB B h k C v xs) (hl : xs.length ≤ B') (hc : ∀ y, y ∈ xs → ∀ cs, C h y cs → C' h y cs) : SLB B' h k C' v xs := by
  unfold SLB at x ⊢
  obtain ⟨_, ⟨p, cap, e, rfl⟩ | ⟨b, off, cap, e, g⟩⟩ := x
  · exact ⟨hl, .inl ⟨p, cap, e, rfl⟩⟩
  · refine ⟨hl, .inr ⟨b, off, cap, e, fun i y hy => ?_⟩⟩
    obtain ⟨vs, h1, h2, h3, h4⟩ := g i y hy
    exact ⟨vs, h1, h2, hc y (List.mem_of_getElem? hy) vs h3, h4⟩
theorem few_small {vs : List View} (h : fewB vs = true) : Small vs := by
  rw [fewB, Bool.and_eq_true, decide_eq_true_eq] at h
  obtain ⟨h, hl⟩ := h
  rw [List.all_eq_true] at h
  have hv : ∀ v, v ∈ vs → (v.objects.length ≤ 12 ∧ v.stubs.length ≤ 12 ∧ v.scions.length ≤ 12 ∧ v.names.length ≤ 6 ∧ v.mail.length ≤ 6 ∧ v.flights.length ≤ 6 ∧ v.received.length ≤ 10) ∧ (∀ n, n ∈ v.objects → n.fields.length ≤ 6) ∧ (∀ m, m ∈ v.mail → m.args.length ≤ 6) ∧
      ∀ x, x ∈ v.flights → x.msg.args.length ≤ 6 ∧ x.msg.parcel.fields.length ≤ 6 ∧ x.msg.parcel.mail.length ≤ 4 ∧ ∀ l, l ∈ x.msg.parcel.mail → l.length ≤ 6 := by
    intro v hv
    have := h v hv
    simp only [smallV, sizesB, Bool.and_eq_true, List.all_eq_true, decide_eq_true_eq, msgB] at this
    obtain ⟨h1, h2, h3, h4⟩ := this
    exact ⟨h1, h2, h3, h4⟩
  exact ⟨hl, fun v m => (hv v m).1.1, fun v m => (hv v m).1.2.1, fun v m => (hv v m).1.2.2.1, fun v m => (hv v m).1.2.2.2.1, fun v m => (hv v m).1.2.2.2.2.1, fun v m => (hv v m).1.2.2.2.2.2.1, fun v m => (hv v m).1.2.2.2.2.2.2,
    fun v m => (hv v m).2.1, fun v m => (hv v m).2.2.1, fun v m x hx => ((hv v m).2.2.2 x hx).1, fun v m x hx => ((hv v m).2.2.2 x hx).2.1, fun v m x hx => ((hv v m).2.2.2 x hx).2.2.1, fun v m x hx => ((hv v m).2.2.2 x hx).2.2.2⟩
theorem NodeC.cast {B B' : Nat} {h : Frag} {n : Nd} {cs : List Value} (x : NodeC B h n cs) (hl : n.fields.length ≤ B') : NodeC B' h n cs := by
  obtain ⟨p, c, e, s⟩ := x
  exact ⟨p, c, e, SLB.cast s hl fun _ _ _ y => y⟩
theorem slb_small {h : Frag} {a : Value} {vs : List View} (hs : SLB 9223372036854775807 h 13 (ViewC 9223372036854775807) a vs) (sm : Small vs) : SL h 13 (ViewC 4398046511104) a vs := by
  refine SLB.cast hs (Nat.le_trans sm.len (by decide)) fun v hv cs hc => ?_
  obtain ⟨hi, xa, po, qo, qs, qt, pc, qc, pn, qn, pm, qm, xw, xv, pf, qf, pr, qr, xe, xf, rfl, s1, s2, s3, s4, s5, s6, s7⟩ := hc
  have l1 := sm.objs v hv
  have l2 := sm.stubs v hv
  have l3 := sm.scions v hv
  have l4 := sm.names v hv
  have l5 := sm.mail v hv
  have l6 := sm.flights v hv
  have l7 := sm.received v hv
  refine ⟨hi, xa, po, qo, qs, qt, pc, qc, pn, qn, pm, qm, xw, xv, pf, qf, pr, qr, xe, xf, rfl, ?_, ?_, ?_, ?_, ?_, ?_, ?_⟩
  · exact SLB.cast s1 (by omega) fun n hn cs hc => NodeC.cast hc (Nat.le_trans (sm.fields v hv n hn) (by decide))
  · exact SLB.cast s2 (by omega) fun _ _ _ y => y
  · exact SLB.cast s3 (by omega) fun _ _ _ y => y
  · exact SLB.cast s4 (by omega) fun _ _ _ y => y
  · refine SLB.cast s5 (by omega) fun m hm cs hc => ?_
    obtain ⟨a, b, m', p, c, e, s⟩ := hc
    exact ⟨a, b, m', p, c, e, SLB.cast s (Nat.le_trans (sm.args v hv m hm) (by decide)) fun _ _ _ y => y⟩
  · refine SLB.cast s6 (by omega) fun x hx cs hc => ?_
    obtain ⟨a1, a2, b1, b2, b3, pa, qa, pf, qf, pm, qm, wv, y1, y2, y3, y4, y5, y6, y7, y8, y9, y10, y11, y12, y13, y14, y15, e, t1, t2, t3⟩ := hc
    refine ⟨a1, a2, b1, b2, b3, pa, qa, pf, qf, pm, qm, wv, y1, y2, y3, y4, y5, y6, y7, y8, y9, y10, y11, y12, y13, y14, y15, e, ?_, ?_, ?_⟩
    · exact SLB.cast t1 (Nat.le_trans (sm.letter v hv x hx) (by decide)) fun _ _ _ y => y
    · exact SLB.cast t2 (Nat.le_trans (sm.moved v hv x hx) (by decide)) fun _ _ _ y => y
    · refine SLB.cast t3 (Nat.le_trans (sm.pmail v hv x hx) (by decide)) fun l hl cs hc => ?_
      obtain ⟨a, b, m, p, c, e, s⟩ := hc
      exact ⟨a, b, m, p, c, e, SLB.cast s (Nat.le_trans (sm.pargs v hv x hx l hl) (by decide)) fun _ _ _ y => y⟩
  · exact SLB.cast s7 (by omega) fun _ _ _ y => y
/-- a map in which what is in s is true -/
def BMap (ps : List (ID × Value)) (s : List ID) : Prop := ∀ id, mget id ps = if id ∈ s then some (.bool true) else none
theorem BMap_nil : BMap [] [] := fun id => by simp [mget]
theorem BMap_put {ps : List (ID × Value)} {s : List ID} (x : BMap ps s) (id : ID) : BMap (mput id (.bool true) ps) (s ++ [id]) := fun k => by
  rw [mget_mput, x k]
  by_cases h1 : id = k
  · subst h1; simp
  · by_cases h2 : k ∈ s
    · simp [h1, h2]
    · simp [h1, h2, Ne.symm h1]
theorem BMap_at {ps : List (ID × Value)} {s : List ID} (x : BMap ps s) {i : Nat} {k : ID} {v : Value} (h : ps[i]? = some (k, v)) : k ∈ s := by
  have := x k
  by_cases hk : k ∈ s
  · exact hk
  · rw [if_neg hk] at this
    exact absurd (List.mem_map.2 ⟨_, List.mem_of_getElem? h, rfl⟩) (mget_none_keys this)
theorem BMap_get {ps : List (ID × Value)} {s : List ID} (x : BMap ps s) {id : ID} (h : id ∈ s) : mget id ps = some (.bool true) := by rw [x id, if_pos h]
/-- the places of a map that a range has come by -/
def Seen (n : Nat) (seen : List Nat) : Prop := seen.Nodup ∧ ∀ i, i ∈ seen → i < n
theorem Seen_nil (n : Nat) : Seen n [] := ⟨List.nodup_nil, by simp⟩
theorem Seen_snoc {n i : Nat} {seen : List Nat} (x : Seen n seen) (hi : i ∉ seen) (hn : i < n) : Seen n (seen ++ [i]) := by
  refine ⟨?_, fun j hj => ?_⟩
  · rw [List.nodup_append]
    exact ⟨x.1, by simp, fun a ha b hb e => hi (by simp at hb; subst hb; subst e; exact ha)⟩
  · rcases List.mem_append.1 hj with h | h
    · exact x.2 j h
    · simp at h; omega
theorem Seen_le {n : Nat} {seen : List Nat} (x : Seen n seen) : seen.length ≤ n := by
  have := nodup_subN seen (List.range n) x.1 fun i hi => List.mem_range.2 (x.2 i hi)
  simpa using this
attribute [local irreducible] BMap Seen
end Go.Proofs.YtfhoecgiahpddaaGreat
/-
  THE LAW ObserverJudges returns true.
-/
set_option linter.all false
namespace Go.Proofs.YtfhoecgiahpddaaGreat
open Go.Mesh Go.RowKit
set_option maxRecDepth 100000
set_option linter.unusedVariables false
set_option maxHeartbeats 4000000
attribute [local irreducible] WP OPS ANY ANYo LG LV FSpec PSpec QOP OPc OPw thenQ blockQ roundQ roundF retQ retM Rd At SLB OS cmpI orI cmpID namedB valB nodeB kindB validG valAux idxI findG zeroV viewOf vwAt idxOf recv flyB scionOf moveOf numberedOf idOf valueOf mget mput localB carriedB msgB sizesB smallV fewB stubOf followF followOf flOf flightsOf flPre setL minusL compactL putI mergeN insN insAll unionR NMap Coll retN bodyS GMap Dfs refsV refsOf reachL movedOf movedG graphParts graphR isMove flightIDs mailIDs viewIDs rawRoots rootsR refFl refMoved refPut keepL Bfs reachR deadN viewObjs garbageOf garbageR objsL refView1 refRaw plainV plainN plainTo disagree agreesB routeOf goesB thereB oddB badNode lostF badStub safe1 safe2 safe3 safe4 safeR safeAll lostB BMap Seen
theorem judges_s {h : Frag} {a b : Value} {vs : List View} {us : List Value} {g : List Nd} {ids : List ID} (hs : SLB 9223372036854775807 h 13 (ViewC 9223372036854775807) a vs) (hg : GraphC 4398046511104 h g us) (hi : SL h 2 IDC b ids) : PSpec Tryz.prog 6 #[a, .agg us.toArray, b] h (fun _ v => v = .bool true) := by
  obtain ⟨pv, cv, rfl⟩ := hs.slice
  obtain ⟨pg, cg, rfl, hf⟩ := hg
  obtain ⟨pi, ci, rfl⟩ := hi.slice
  refine pspec_of (vs := [.slice pv vs.length cv, .agg [Value.slice pg g.length cg].toArray, .slice pi ids.length ci]) Tryz.func6 Tryz.ntmps6 rfl rfl ?_
  by_cases hfew : fewB vs = true
  · have sm := few_small hfew
    have hB := hs
    replace hs := slb_small hs sm
    by_cases h1 : g.length ≤ 20
    · by_cases h2 : ids.length ≤ 20
      · (focus (refine Wr ?_; refine Tbx ?_; intro b0_1; refine Tm ?_; refine On ?_; refine WP_seq ?_; refine Wr ?_; refine S_c rfl rfl rfl (C_callv (awake_s) rfl rfl rfl (cal rfl) ?_); refine S_q rfl rfl rfl (Q_not rfl rfl) ?_; refine On ?_; refine cond_f rfl ?_; refine WP_skip ?_; refine then_n ?_; refine WP_seq ?_; refine Wr ?_; refine Tm ?_; refine S_c rfl rfl rfl (C_callv (few_s ‹_›) rfl rfl ⟨_, _, rfl, rfl, rfl⟩ (cal rfl) ?_); refine S_q rfl rfl rfl (Q_not rfl rfl) ?_; refine Tm ?_; refine Ugs ?_ ?_ <;> intro c0_2 <;> (first | simp [*] at c0_2; done | try simp at c0_2); refine Ugf ?_; refine Ugl ?_; refine L_one (Rd.own m0) (ty rfl) ?_; refine S_gq rfl rfl rfl rfl rfl rfl (Q_len rfl rfl rfl rfl rfl rfl) ?_; refine Ugc ?_; refine Tp0 ?_; refine Tm ?_; refine Ugs ?_ ?_ <;> intro c0_3 <;> (first | simp [*] at c0_3; done | try simp at c0_3); (focus (exfalso; omega)); (focus (refine Ugm ?_; refine S_gq rfl rfl rfl rfl rfl rfl (Q_len rfl rfl rfl rfl rfl rfl) ?_; refine Ugc ?_; refine Tp0 ?_; refine On ?_; refine Wc ?_ ?_ <;> intro c0_4 <;> (first | simp [*] at c0_4; done | try simp at c0_4); (focus (exfalso; omega)); (focus (refine WP_skip ?_; refine then_n ?_)); rotate_left 1)); rotate_left 1))
        (focus (refine WP_keepM [] [_] _ rfl ?_; rintro h1_k l1_k k1_k; have a1_k := at_of_keep k1_k; clear k1_k; replace hf := hf.up l1_k; replace hi := hi.up l1_k; replace hB := hB.up l1_k; replace hs := hs.up l1_k))
        (focus (refine WP_seq ?_; refine R_draw (n := 24) mixed rfl ?_; refine Va 0 ?_; refine Vm 1 ?_; refine Va 2 ?_; refine Vm 5 ?_; refine Va 1 ?_; refine A_c (m' := 7) rfl rfl rfl rfl (by decide +kernel) (C_callv (safe_s ‹_› ‹_›) rfl rfl ⟨_, _, rfl, rfl, rfl⟩ (cal rfl) ?_); refine Va 3 ?_; refine A_c (m' := 15) rfl rfl rfl rfl (by decide +kernel) (C_callv (refSafe_s ‹_› ‹_›) rfl rfl ⟨_, _, rfl, rfl, rfl⟩ (cal rfl) ?_); refine Va 4 ?_; refine A_q (m' := 31) rfl rfl rfl (Q_cmp rfl rfl rfl rfl) rfl (fbL (by decide +kernel)) ?_; refine Va 5 ?_; refine Vm 63 ?_; refine Va 6 ?_; refine Vgs ?_ ?_ <;> intro c2_1 <;> (first | simp [*] at c2_1; done | try simp at c2_1); refine Va 6 ?_; refine Vgm 127 ?_; refine Va 8 ?_; refine Vgm 383 ?_; refine Va 7 ?_; refine A_gc (m' := 511) rfl rfl rfl rfl rfl rfl rfl (by decide +kernel) (C_callv (garbage_s ‹_› ‹_›) rfl rfl ⟨_, _, rfl, rfl, rfl⟩ (cal rfl) ?_); refine Va 9 ?_; refine A_gc (m' := 1023) rfl rfl rfl rfl rfl rfl rfl (by decide +kernel) (C_callv (refGarbage_s ‹_› ‹_›) rfl rfl ⟨_, _, rfl, rfl, rfl⟩ (cal rfl) ?_); refine Va 10 ?_; refine A_gq (m' := 2047) rfl rfl rfl rfl rfl rfl (Q_cmp rfl rfl rfl rfl) rfl (fbL (by decide +kernel)) ?_; refine Va 11 ?_; refine A_q (m' := 4095) rfl rfl rfl (Q_pick_t rfl rfl rfl) rfl (fbL (by decide +kernel)) ?_; refine Va 12 ?_; refine Vm 8191 ?_; refine Va 13 ?_; refine Vgs ?_ ?_ <;> intro c2_2 <;> (first | simp [*] at c2_2; done | try simp at c2_2); refine Va 13 ?_; refine Vgm 16383 ?_; refine Va 14 ?_; refine Vgl 32767 ?_; refine Lp ?_; refine Va 15 ?_; refine Vgm 65535 ?_; refine Va 17 ?_; refine Vgm 196607 ?_; refine Va 18 ?_; refine Vgl 458751 ?_; refine Lp ?_; refine Va 19 ?_; refine Vgm 983039 ?_; refine Va 16 ?_; refine A_gc (m' := 1048575) rfl rfl rfl rfl rfl rfl rfl (by decide +kernel) (C_callv (agrees_s ‹_› ‹_› ⟨_, _, rfl, by assumption⟩ ‹_› (by omega)) rfl rfl ⟨_, _, rfl, ⟨_, _, rfl, ⟨_, _, rfl, rfl, rfl⟩, rfl⟩, rfl⟩ (cal rfl) ?_); refine Va 20 ?_; refine A_gc (m' := 2097151) rfl rfl rfl rfl rfl rfl rfl (by decide +kernel) (C_callv (refAgrees_s ‹_› ‹_› ⟨_, _, rfl, by assumption⟩ ‹_› (by omega)) rfl rfl ⟨_, _, rfl, ⟨_, _, rfl, ⟨_, _, rfl, rfl, rfl⟩, rfl⟩, rfl⟩ (cal rfl) ?_); refine Va 21 ?_; refine A_gq (m' := 4194303) rfl rfl rfl rfl rfl rfl (Q_beq rfl rfl rfl rfl) rfl (fbL (by decide +kernel)) ?_; refine Va 22 ?_; refine A_q (m' := 8388607) rfl rfl rfl (Q_pick_t rfl rfl rfl) rfl (fbL (by decide +kernel)) ?_; refine Va 23 ?_; refine Vs 16777215 ?_; refine A_done (by decide +kernel) ?_; refine then_n ?_; refine WP_ret ?_))
        refine pret (.inl rfl) rfl ⟨_, _, rfl, rfl, rfl⟩ ?_
        simp [resOf]
      · (focus (refine Wr ?_; refine Tbx ?_; intro b3_1; refine Tm ?_; refine On ?_; refine WP_seq ?_; refine Wr ?_; refine S_c rfl rfl rfl (C_callv (awake_s) rfl rfl rfl (cal rfl) ?_); refine S_q rfl rfl rfl (Q_not rfl rfl) ?_; refine On ?_; refine cond_f rfl ?_; refine WP_skip ?_; refine then_n ?_; refine WP_seq ?_; refine Wr ?_; refine Tm ?_; refine S_c rfl rfl rfl (C_callv (few_s ‹_›) rfl rfl ⟨_, _, rfl, rfl, rfl⟩ (cal rfl) ?_); refine S_q rfl rfl rfl (Q_not rfl rfl) ?_; refine Tm ?_; refine Ugs ?_ ?_ <;> intro c3_2 <;> (first | simp [*] at c3_2; done | try simp at c3_2); refine Ugf ?_; refine Ugl ?_; refine L_one (Rd.own m0) (ty rfl) ?_; refine S_gq rfl rfl rfl rfl rfl rfl (Q_len rfl rfl rfl rfl rfl rfl) ?_; refine Ugc ?_; refine Tp0 ?_; refine Tm ?_; refine Ugs ?_ ?_ <;> intro c3_3 <;> (first | simp [*] at c3_3; done | try simp at c3_3); (focus (exfalso; omega)); (focus (refine Ugm ?_; refine S_gq rfl rfl rfl rfl rfl rfl (Q_len rfl rfl rfl rfl rfl rfl) ?_; refine Ugc ?_; refine Tp0 ?_; refine On ?_; refine Wc ?_ ?_ <;> intro c3_4 <;> (first | simp [*] at c3_4; done | try simp at c3_4); (focus (refine Wr ?_; refine Tm ?_; refine On ?_; refine WP_ret ?_; refine then_r ?_)); rotate_left 1; (focus (exfalso; omega)))); rotate_left 1))
        refine pret (.inl rfl) rfl ⟨_, _, rfl, rfl, rfl⟩ ?_
        rfl
    · (focus (refine Wr ?_; refine Tbx ?_; intro b4_1; refine Tm ?_; refine On ?_; refine WP_seq ?_; refine Wr ?_; refine S_c rfl rfl rfl (C_callv (awake_s) rfl rfl rfl (cal rfl) ?_); refine S_q rfl rfl rfl (Q_not rfl rfl) ?_; refine On ?_; refine cond_f rfl ?_; refine WP_skip ?_; refine then_n ?_; refine WP_seq ?_; refine Wr ?_; refine Tm ?_; refine S_c rfl rfl rfl (C_callv (few_s ‹_›) rfl rfl ⟨_, _, rfl, rfl, rfl⟩ (cal rfl) ?_); refine S_q rfl rfl rfl (Q_not rfl rfl) ?_; refine Tm ?_; refine Ugs ?_ ?_ <;> intro c4_2 <;> (first | simp [*] at c4_2; done | try simp at c4_2); refine Ugf ?_; refine Ugl ?_; refine L_one (Rd.own m0) (ty rfl) ?_; refine S_gq rfl rfl rfl rfl rfl rfl (Q_len rfl rfl rfl rfl rfl rfl) ?_; refine Ugc ?_; refine Tp0 ?_; refine Tm ?_; refine Ugs ?_ ?_ <;> intro c4_3 <;> (first | simp [*] at c4_3; done | try simp at c4_3); (focus (refine Tn ?_; refine Tn ?_; refine Tn ?_; refine Tp1 ?_; refine On ?_; refine cond_t rfl ?_; refine Wr ?_; refine Tm ?_; refine On ?_; refine WP_ret ?_; refine then_r ?_)); rotate_left 1; (focus (exfalso; omega))))
      refine pret (.inl rfl) rfl ⟨_, _, rfl, rfl, rfl⟩ ?_
      rfl
  · (focus (refine Wr ?_; refine Tbx ?_; intro b5_1; refine Tm ?_; refine On ?_; refine WP_seq ?_; refine Wr ?_; refine S_c rfl rfl rfl (C_callv (awake_s) rfl rfl rfl (cal rfl) ?_); refine S_q rfl rfl rfl (Q_not rfl rfl) ?_; refine On ?_; refine cond_f rfl ?_; refine WP_skip ?_; refine then_n ?_; refine WP_seq ?_; refine Wr ?_; refine Tm ?_; refine S_c rfl rfl rfl (C_callv (few_s ‹_›) rfl rfl ⟨_, _, rfl, rfl, rfl⟩ (cal rfl) ?_); refine S_q rfl rfl rfl (Q_not rfl rfl) ?_; refine Tm ?_; refine Ugs ?_ ?_ <;> intro c5_2 <;> (first | simp [*] at c5_2; done | try simp at c5_2); refine Tn ?_; refine Tn ?_; refine Tn ?_; refine Tn ?_; refine Tp1 ?_; refine Tm ?_; refine Tn ?_; refine Tn ?_; refine Tn ?_; refine Tp1 ?_; refine On ?_; refine cond_t rfl ?_; refine Wr ?_; refine Tm ?_; refine On ?_; refine WP_ret ?_; refine then_r ?_))
    refine pret (.inl rfl) rfl ⟨_, _, rfl, rfl, rfl⟩ ?_
    rfl
end Go.Proofs.YtfhoecgiahpddaaGreat
/-
  HOW THE DATA THAT A ROW SPEAKS OF ARE OPENED: from a value's reading to its cells, in the words of the logic.
-/
set_option linter.all false
namespace Go.Mesh
open Go.RowKit
set_option linter.unusedVariables false
section
variable {H : Type} {enc : TypeId × Value → H} {P : Program} {w : World} {t e : TypeId} {cs : List Value}
def TR (enc : TypeId × Value → H) (P : Program) (w : World) (t : TypeId) (cs : List Value) : Prop := ∃ fuel x, DataW.trod enc P w 0 (fun _ => true) true fuel t cs = some x
/-- the whole heap: nobody writes it -/
def hpOf (w : World) : Frag := fun b => w.heap[b]?
theorem Holds.all (w : World) : Holds (hpOf w) [] w := ⟨⟨fun _ _ e => e, by simp⟩, List.nodup_nil, by simp⟩
theorem TR.int {k : IntKind} (h : TR enc P w t cs) (ht : P.underlying t = some (.int k)) : ∃ n, cs = [.int k n] ∧ (Lit.int k n).wf = true := by
  obtain ⟨_, _, h⟩ := h
  obtain ⟨n, e, _, hw⟩ := DataW.trod_int ht h
  exact ⟨n, e, hw⟩
theorem TR.bool (h : TR enc P w t cs) (ht : P.underlying t = some .bool) : ∃ b, cs = [.bool b] := by
  obtain ⟨_, _, h⟩ := h
  obtain ⟨b, e, _⟩ := DataW.trod_bool ht h
  exact ⟨b, e⟩
theorem TR.str (h : TR enc P w t cs) (ht : P.underlying t = some .string) : ∃ s, cs = [.string s] := by
  obtain ⟨_, _, h⟩ := h
  obtain ⟨s, e, _⟩ := DataW.trod_string ht h
  exact ⟨s, e⟩
/-- the cells of fields that lie side by side -/
def Parts (Q : TypeId → List Value → Prop) : List TypeId → List Value → Prop
  | [], cs => cs = []
  | t :: ts, cs => ∃ a b, cs = a ++ b ∧ Q t a ∧ Parts Q ts b
def tilesB (P : Program) : List Field → Nat → Nat → Bool
  | [], cur, tot => Nat.beq cur tot
  | f :: fs, cur, tot => Nat.beq f.offset cur && tilesB P fs (cur + P.cellsOf f.type) tot
theorem tilesB_le : ∀ (l : List Field) (cur tot : Nat), tilesB P l cur tot = true → cur ≤ tot
  | [], cur, tot, h => Nat.le_of_eq (Nat.eq_of_beq_eq_true h)
  | f :: fs, cur, tot, h => by
    simp only [tilesB, Bool.and_eq_true] at h
    have := tilesB_le fs _ _ h.2
    omega
theorem parts_of {Q : TypeId → List Value → Prop} : ∀ (l : List Field) (cur : Nat), tilesB P l cur cs.length = true → (∀ f, f ∈ l → ((cs.drop f.offset).take (P.cellsOf f.type)).length = P.cellsOf f.type → Q f.type ((cs.drop f.offset).take (P.cellsOf f.type))) →
    Parts Q (l.map (·.type)) (cs.drop cur)
  | [], cur, h, _ => by
    have : cur = cs.length := Nat.eq_of_beq_eq_true h
    simp [Parts, this]
  | f :: fs, cur, h, hq => by
    simp only [tilesB, Bool.and_eq_true] at h
    obtain ⟨h1, h2⟩ := h
    have h1 := Nat.eq_of_beq_eq_true h1
    have hle := tilesB_le fs _ _ h2
    have ih := parts_of fs _ h2 fun g hg => hq g (List.mem_cons_of_mem _ hg)
    refine ⟨(cs.drop cur).take (P.cellsOf f.type), cs.drop (cur + P.cellsOf f.type), ?_, ?_, ih⟩
    · rw [← List.drop_drop, List.take_append_drop]
    · have := hq f (List.mem_cons_self ..)
      rw [h1] at this
      exact this (by rw [List.length_take, List.length_drop]; omega)
theorem TR.struct {fs : Array Field} {tys : List TypeId} (h : TR enc P w t cs) (ht : P.underlying t = some (.struct fs)) (hb : tilesB P fs.toList 0 (P.cellsOf t) = true) (hty : fs.toList.map (·.type) = tys) : cs.length = P.cellsOf t ∧ Parts (fun t a => a.length = P.cellsOf t ∧ TR enc P w t a) tys cs := by
  obtain ⟨_, _, h⟩ := h
  obtain ⟨xs, n, _, _, hl, hx, hf⟩ := DataW.trod_struct ht h
  subst hty
  refine ⟨hl, ?_⟩
  have := parts_of (P := P) (Q := fun t a => a.length = P.cellsOf t ∧ TR enc P w t a) (cs := cs) fs.toList 0 (by rw [hl]; exact hb) fun f hm hlen => ?_
  · simpa using this
  · obtain ⟨i, hi⟩ := List.getElem?_of_mem hm
    have hi' : fs[i]? = some f := by simpa using hi
    have := hf i f hi'
    have hlt : i < xs.length := by rw [hx]; exact (Array.getElem?_eq_some_iff.1 hi').1
    rw [List.getElem?_eq_getElem hlt] at this
    exact ⟨hlen, n, _, this⟩
theorem list_of {α : Type} {Q : Nat → α → Prop} : ∀ n, (∀ i, i < n → ∃ y, Q i y) → ∃ xs : List α, xs.length = n ∧ ∀ (i : Nat) y, xs[i]? = some y → Q i y
  | 0, _ => ⟨[], rfl, by simp⟩
  | n + 1, h => by
    obtain ⟨xs, hl, hx⟩ := list_of n fun i hi => h i (by omega)
    obtain ⟨y, hy⟩ := h n (by omega)
    refine ⟨xs ++ [y], by simp [hl], fun i z hz => ?_⟩
    rw [List.getElem?_append] at hz
    split at hz
    · exact hx i z hz
    · rename_i hge
      have hi : i - xs.length = 0 := by
        have := (List.getElem?_eq_some_iff.1 hz).1
        simp at this; omega
      rw [hi] at hz
      simp at hz
      subst hz
      have : i = n := by omega
      rw [this]; exact hy
theorem TR.slice {α : Type} {C : CR α} {k : Nat} (h : TR enc P w t cs) (ht : P.underlying t = some (.slice e)) (hk : P.cellsOf e = k) (h0 : 0 < k)
    (hel : ∀ cs, TR enc P w e cs → ∃ y, cs.length = k ∧ ones cs = true ∧ C (hpOf w) y cs) : ∃ p c, ∃ xs : List α, cs = [.slice p xs.length c] ∧ SLB 9223372036854775807 (hpOf w) k C (.slice p xs.length c) xs := by
  obtain ⟨_, _, h⟩ := h
  rcases DataW.trod_slice ht h with ⟨rfl, _⟩ | ⟨a, len, cap, elems, rest, n, _, rfl, _, _, hlc, hcm, hel2, hget, _⟩
  · exact ⟨none, 0, [], rfl, by simp, .inl ⟨none, 0, rfl, rfl⟩⟩
  · rw [hk] at hget
    by_cases hz : len = 0
    · subst hz
      exact ⟨some a, cap, [], rfl, by simp, .inl ⟨some a, cap, rfl, rfl⟩⟩
    have hcells : ∀ i, i < len → ∃ y, ∃ us : List Value, us.length = k ∧ ones us = true ∧ C (hpOf w) y us ∧ ∀ j, j < k → w.cell? ((a.add (i * k)).add j) = us[j]? := by
      intro i hi
      have hg := hget i hi
      rw [List.getElem?_eq_getElem (by rw [hel2]; exact hi)] at hg
      cases hc : w.cells? 0 (a.add (i * k)) k with
      | none => rw [hc] at hg; cases hg
      | some us =>
        rw [hc] at hg
        obtain ⟨y, hl, ho, hC⟩ := hel us ⟨n, _, hg⟩
        simp only [World.cells?, Nat.zero_le, if_true] at hc
        exact ⟨y, us, hl, ho, hC, fun j hj => mapM_some_get hc j j (by simp [hj])⟩
    obtain ⟨b, off, spot⟩ := a
    have hsp : spot = none := by
      obtain ⟨y, us, hl, _, _, hc⟩ := hcells 0 (by omega)
      have h00 := hc 0 h0
      rw [List.getElem?_eq_getElem (by omega)] at h00
      have hs := World.cell?_spot h00
      simpa [Addr.add] using hs
    subst hsp
    have hone : ∀ i, i < len → ∃ y, ∃ us : List Value, us.length = k ∧ ones us = true ∧ C (hpOf w) y us ∧ At (hpOf w) b (off + i * k) us := by
      intro i hi
      obtain ⟨y, us, hl, ho, hC, hc⟩ := hcells i hi
      refine ⟨y, us, hl, ho, hC, ?_⟩
      have h00 := hc 0 h0
      rw [List.getElem?_eq_getElem (by omega)] at h00
      simp only [addr_add, World.cell?] at hc h00
      cases hb : w.heap[b]? with
      | none => simp only [hb] at h00; cases h00
      | some ob =>
        simp only [hb] at h00 hc
        cases ob with
        | cells arr ty fz =>
          refine ⟨arr, ty, fz, hb, fun j v hv => ?_⟩
          have := hc j (by rw [← hl]; exact (List.getElem?_eq_some_iff.1 hv).1)
          simp only [Option.isSome_none, Bool.false_eq_true, if_false] at this
          rw [this]; exact hv
        | _ => cases h00
    obtain ⟨xs, hl, hx⟩ := list_of len hone
    refine ⟨some ⟨b, off, none⟩, cap, xs, by rw [hl], by rw [hl]; unfold maxLen at hcm; omega, ?_⟩
    exact .inr ⟨b, off, cap, rfl, fun i y hy => hx i y hy⟩
/-- types of which only the cells' form is asked -/
def flatB (P : Program) : Nat → TypeId → Bool
  | 0, _ => false
  | n + 1, t => match P.underlying t with
    | some (.struct fs) => tilesB P fs.toList 0 (P.cellsOf t) && fs.toList.all fun f => flatB P n f.type
    | some (.array ..) => false
    | some _ => true
    | none => false
theorem ones_parts {Q : TypeId → List Value → Prop} (hq : ∀ t a, Q t a → ones a = true) : ∀ (ts : List TypeId) (cs : List Value), Parts Q ts cs → ones cs = true
  | [], _, e => by cases e; rfl
  | t :: ts, _, ⟨a, b, e, h1, h2⟩ => by subst e; exact ones_append (hq t a h1) (ones_parts hq ts b h2)
theorem TR.ones : ∀ (n : Nat) {t : TypeId} {cs : List Value}, TR enc P w t cs → flatB P n t = true → Mesh.ones cs = true
  | 0, _, _, _, hf => by cases hf
  | n + 1, t, cs, h, hf => by
    unfold flatB at hf
    split at hf
    · rename_i fs hu
      rw [Bool.and_eq_true, List.all_eq_true] at hf
      obtain ⟨_, hp⟩ := TR.struct (tys := fs.toList.map (·.type)) h hu hf.1 rfl
      have hmem : ∀ (ts : List TypeId) (cs : List Value), (∀ t, t ∈ ts → flatB P n t = true) → Parts (fun t a => a.length = P.cellsOf t ∧ TR enc P w t a) ts cs → Mesh.ones cs = true := by
        intro ts
        induction ts with
        | nil => intro cs _ e; cases e; rfl
        | cons t ts ih =>
          rintro _ hall ⟨a, b, rfl, ⟨_, h1⟩, h2⟩
          exact ones_append (TR.ones n h1 (hall t (List.mem_cons_self ..))) (ih b (fun u hu => hall u (List.mem_cons_of_mem _ hu)) h2)
      refine hmem _ _ (fun t ht => ?_) hp
      obtain ⟨f, hfm, rfl⟩ := List.mem_map.1 ht
      exact hf.2 f hfm
    · cases hf
    · rename_i d hns hna hu
      obtain ⟨fuel, x, h⟩ := h
      cases fuel with
      | zero => simp [DataW.trod] at h
      | succ m =>
        unfold DataW.trod at h
        rw [hu] at h
        split at h <;> first | rfl | (cases h; done) | (exfalso; simp_all; done) | skip
    · cases hf
end
end Go.Mesh
/-
  THE PROGRAM's DATA, OPENED: identities, values, nodes, graphs, references, letters, flights, stubs, scions, views.
-/
set_option linter.all false
namespace Go.Proofs.YtfhoecgiahpddaaGreat
open Go.Mesh Go.RowKit
set_option linter.unusedVariables false
set_option maxRecDepth 100000
section
variable {H : Type} {enc : TypeId × Value → H} {w : World} {cs : List Value}
theorem len1 {a : List Value} {n : Nat} (h : a.length = n) (hn : n = 1) : ∃ x, a = [x] := by
  subst hn
  match a, h with
  | [x], _ => exact ⟨x, rfl⟩
theorem len2 {a : List Value} {n : Nat} (h : a.length = n) (hn : n = 2) : ∃ x y, a = [x, y] := by
  subst hn
  match a, h with
  | [x, y], _ => exact ⟨x, y, rfl⟩
theorem len5 {a : List Value} {n : Nat} (h : a.length = n) (hn : n = 5) : ∃ x1 x2 x3 x4 x5, a = [x1, x2, x3, x4, x5] := by
  subst hn
  match a, h with
  | [x1, x2, x3, x4, x5], _ => exact ⟨_, _, _, _, _, rfl⟩
theorem len7 {a : List Value} {n : Nat} (h : a.length = n) (hn : n = 7) : ∃ x1 x2 x3 x4 x5 x6 x7, a = [x1, x2, x3, x4, x5, x6, x7] := by
  subst hn
  match a, h with
  | [x1, x2, x3, x4, x5, x6, x7], _ => exact ⟨_, _, _, _, _, _, _, rfl⟩
theorem len8 {a : List Value} {n : Nat} (h : a.length = n) (hn : n = 8) : ∃ x1 x2 x3 x4 x5 x6 x7 x8, a = [x1, x2, x3, x4, x5, x6, x7, x8] := by
  subst hn
  match a, h with
  | [x1, x2, x3, x4, x5, x6, x7, x8], _ => exact ⟨_, _, _, _, _, _, _, _, rfl⟩
theorem id_of (h : TR enc Tryz.prog w 35 cs) : ∃ y : ID, cs = idc y := by
  obtain ⟨_, a, _, rfl, ⟨_, h1⟩, b, _, rfl, ⟨_, h2⟩, rfl⟩ := h.struct (tys := [3, 3]) Tryz.underlying35 (by kernel_rfl) rfl
  obtain ⟨x, rfl, _⟩ := h1.int Tryz.underlying3
  obtain ⟨y, rfl, _⟩ := h2.int Tryz.underlying3
  exact ⟨(x, y), rfl⟩
theorem val_of (h : TR enc Tryz.prog w 42 cs) : ∃ y : Val, cs.length = 4 ∧ ones cs = true ∧ ValC (hpOf w) y cs := by
  obtain ⟨_, a, _, rfl, ⟨_, h1⟩, b, _, rfl, ⟨_, h2⟩, c, _, rfl, ⟨_, h3⟩, rfl⟩ := h.struct (tys := [3, 2, 35]) Tryz.underlying42 (by kernel_rfl) rfl
  obtain ⟨x, rfl, _⟩ := h1.int Tryz.underlying3
  obtain ⟨y, rfl, _⟩ := h2.int Tryz.underlying2
  obtain ⟨z, rfl⟩ := id_of h3
  exact ⟨(x, y, z), rfl, rfl, rfl⟩
theorem idE_of (h : TR enc Tryz.prog w 35 cs) : ∃ y : ID, cs.length = 2 ∧ ones cs = true ∧ IDC (hpOf w) y cs := by
  obtain ⟨y, rfl⟩ := id_of h
  exact ⟨y, rfl, rfl, rfl⟩
theorem int_of (h : TR enc Tryz.prog w 3 cs) : ∃ y : Int, cs.length = 1 ∧ ones cs = true ∧ IntC (hpOf w) y cs := by
  obtain ⟨x, rfl, _⟩ := h.int Tryz.underlying3
  exact ⟨x, rfl, rfl, rfl⟩
theorem ref_of (h : TR enc Tryz.prog w 76 cs) : ∃ y : Ref, cs.length = 8 ∧ ones cs = true ∧ RefC (hpOf w) y cs := by
  obtain ⟨_, a, _, rfl, ⟨_, h1⟩, b, _, rfl, ⟨_, h2⟩, c, _, rfl, ⟨_, h3⟩, d, _, rfl, ⟨_, h4⟩, e, _, rfl, ⟨_, h5⟩, f, _, rfl, ⟨_, h6⟩, g, _, rfl, ⟨_, h7⟩, rfl⟩ := h.struct (tys := [3, 2, 3, 60, 35, 3, 4]) Tryz.underlying76 (by kernel_rfl) rfl
  obtain ⟨x1, rfl, _⟩ := h1.int Tryz.underlying3
  obtain ⟨x2, rfl, _⟩ := h2.int Tryz.underlying2
  obtain ⟨x3, rfl, _⟩ := h3.int Tryz.underlying3
  obtain ⟨x4, rfl, _⟩ := h4.int Tryz.underlying60
  obtain ⟨x5, rfl⟩ := id_of h5
  obtain ⟨x6, rfl, _⟩ := h6.int Tryz.underlying3
  obtain ⟨x7, rfl⟩ := h7.bool Tryz.underlying4
  exact ⟨⟨x1, x2, x3, x4, x5, x6, x7⟩, rfl, rfl, rfl⟩
theorem node_of (h : TR enc Tryz.prog w 38 cs) : ∃ y : Nd, cs.length = 5 ∧ ones cs = true ∧ NodeC 9223372036854775807 (hpOf w) y cs := by
  obtain ⟨_, a, _, rfl, ⟨_, h1⟩, b, _, rfl, ⟨_, h2⟩, c, _, rfl, ⟨_, h3⟩, d, _, rfl, ⟨_, h4⟩, rfl⟩ := h.struct (tys := [35, 3, 3, 36]) Tryz.underlying38 (by kernel_rfl) rfl
  obtain ⟨x1, rfl⟩ := id_of h1
  obtain ⟨x2, rfl, _⟩ := h2.int Tryz.underlying3
  obtain ⟨x3, rfl, _⟩ := h3.int Tryz.underlying3
  obtain ⟨p, c, xs, rfl, s⟩ := h4.slice (C := ValC) Tryz.underlying36 (by kernel_rfl) (by decide) fun _ => val_of
  exact ⟨⟨x1, x2, x3, xs⟩, rfl, rfl, p, c, rfl, s⟩
theorem graph_of (h : TR enc Tryz.prog w 27 cs) : ∃ y : List Nd, cs.length = 1 ∧ ones cs = true ∧ GraphC 9223372036854775807 (hpOf w) y cs := by
  obtain ⟨_, a, _, rfl, ⟨_, h1⟩, rfl⟩ := h.struct (tys := [25]) Tryz.underlying27 (by kernel_rfl) rfl
  obtain ⟨p, c, xs, rfl, s⟩ := h1.slice (C := NodeC 9223372036854775807) Tryz.underlying25 (by kernel_rfl) (by decide) fun _ => node_of
  exact ⟨xs, rfl, rfl, p, c, rfl, s⟩
theorem letter_of (h : TR enc Tryz.prog w 79 cs) : ∃ y : List Ref, cs.length = 4 ∧ ones cs = true ∧ LetterC 9223372036854775807 (hpOf w) y cs := by
  obtain ⟨_, a, _, rfl, ⟨_, h1⟩, b, _, rfl, ⟨_, h2⟩, c, _, rfl, ⟨_, h3⟩, rfl⟩ := h.struct (tys := [35, 9, 77]) Tryz.underlying79 (by kernel_rfl) rfl
  obtain ⟨x1, rfl⟩ := id_of h1
  obtain ⟨x2, rfl⟩ := h2.str Tryz.underlying9
  obtain ⟨p, c, xs, rfl, s⟩ := h3.slice (C := RefC) Tryz.underlying77 (by kernel_rfl) (by decide) fun _ => ref_of
  exact ⟨xs, rfl, rfl, _, _, _, p, c, rfl, s⟩
theorem stub_of (h : TR enc Tryz.prog w 63 cs) : ∃ y : StubE, cs.length = 12 ∧ ones cs = true ∧ StubC (hpOf w) y cs := by
  have ho := h.ones 5 (by kernel_rfl)
  obtain ⟨_, a, _, rfl, ⟨_, h1⟩, b, _, rfl, ⟨_, h2⟩, c, _, rfl, ⟨_, h3⟩, d, _, rfl, ⟨l4, h4⟩, e, _, rfl, ⟨l5, h5⟩, f, _, rfl, ⟨l6, h6⟩, g, _, rfl, ⟨l7, h7⟩, g8, _, rfl, ⟨_, h8⟩, g9, _, rfl, ⟨_, h9⟩, g10, _, rfl, ⟨l10, h10⟩, rfl⟩ := h.struct (tys := [3, 60, 35, 3, 3, 3, 4, 4, 4, 61]) Tryz.underlying63 (by kernel_rfl) rfl
  obtain ⟨x1, rfl, _⟩ := h1.int Tryz.underlying3
  obtain ⟨x2, rfl, _⟩ := h2.int Tryz.underlying60
  obtain ⟨x3, rfl⟩ := id_of h3
  obtain ⟨x4, rfl⟩ := len1 l4 (by kernel_rfl)
  obtain ⟨x5, rfl⟩ := len1 l5 (by kernel_rfl)
  obtain ⟨x6, rfl⟩ := len1 l6 (by kernel_rfl)
  obtain ⟨x7, rfl⟩ := len1 l7 (by kernel_rfl)
  obtain ⟨x8, rfl⟩ := h8.bool Tryz.underlying4
  obtain ⟨x9, rfl⟩ := h9.bool Tryz.underlying4
  obtain ⟨x10, x11, rfl⟩ := len2 l10 (by kernel_rfl)
  exact ⟨⟨x1, x2, x3, x8, x9⟩, rfl, ho, _, _, _, _, _, _, rfl⟩
theorem scion_of (h : TR enc Tryz.prog w 128 cs) : ∃ y : ScionE, cs.length = 12 ∧ ones cs = true ∧ ScionC (hpOf w) y cs := by
  have ho := h.ones 5 (by kernel_rfl)
  obtain ⟨_, a, _, rfl, ⟨_, h1⟩, b, _, rfl, ⟨_, h2⟩, c, _, rfl, ⟨_, h3⟩, d, _, rfl, ⟨l4, h4⟩, e, _, rfl, ⟨l5, h5⟩, f, _, rfl, ⟨l6, h6⟩, g, _, rfl, ⟨l7, h7⟩, g8, _, rfl, ⟨l8, h8⟩, g9, _, rfl, ⟨l9, h9⟩, g10, _, rfl, ⟨l10, h10⟩, rfl⟩ := h.struct (tys := [3, 60, 35, 3, 3, 3, 4, 4, 4, 61]) Tryz.underlying128 (by kernel_rfl) rfl
  obtain ⟨x1, rfl, _⟩ := h1.int Tryz.underlying3
  obtain ⟨x2, rfl, _⟩ := h2.int Tryz.underlying60
  obtain ⟨x3, rfl⟩ := id_of h3
  obtain ⟨x4, rfl⟩ := len1 l4 (by kernel_rfl)
  obtain ⟨x5, rfl⟩ := len1 l5 (by kernel_rfl)
  obtain ⟨x6, rfl⟩ := len1 l6 (by kernel_rfl)
  obtain ⟨x7, rfl⟩ := len1 l7 (by kernel_rfl)
  obtain ⟨x8, rfl⟩ := len1 l8 (by kernel_rfl)
  obtain ⟨x9, rfl⟩ := len1 l9 (by kernel_rfl)
  obtain ⟨x10, x11, rfl⟩ := len2 l10 (by kernel_rfl)
  exact ⟨⟨x1, x2, x3⟩, rfl, ho, _, _, _, _, _, _, _, _, rfl⟩
theorem named_of (h : TR enc Tryz.prog w 106 cs) : ∃ y : ID, cs.length = 3 ∧ ones cs = true ∧ NamedC (hpOf w) y cs := by
  obtain ⟨_, a, _, rfl, ⟨_, h1⟩, b, _, rfl, ⟨_, h2⟩, rfl⟩ := h.struct (tys := [9, 35]) Tryz.underlying106 (by kernel_rfl) rfl
  obtain ⟨x1, rfl⟩ := h1.str Tryz.underlying9
  obtain ⟨x2, rfl⟩ := id_of h2
  exact ⟨x2, rfl, rfl, _, rfl⟩
theorem mail_of (h : TR enc Tryz.prog w 74 cs) : ∃ y : MailE, cs.length = 6 ∧ ones cs = true ∧ MailC 9223372036854775807 (hpOf w) y cs := by
  obtain ⟨_, a, _, rfl, ⟨_, h1⟩, b, _, rfl, ⟨_, h2⟩, c, _, rfl, ⟨_, h3⟩, d, _, rfl, ⟨_, h4⟩, rfl⟩ := h.struct (tys := [35, 35, 9, 36]) Tryz.underlying74 (by kernel_rfl) rfl
  obtain ⟨x1, rfl⟩ := id_of h1
  obtain ⟨x2, rfl⟩ := id_of h2
  obtain ⟨x3, rfl⟩ := h3.str Tryz.underlying9
  obtain ⟨p, c, xs, rfl, s⟩ := h4.slice (C := ValC) Tryz.underlying36 (by kernel_rfl) (by decide) fun _ => val_of
  exact ⟨⟨x2, xs⟩, rfl, rfl, _, _, _, p, c, rfl, s⟩
theorem flight_of (h : TR enc Tryz.prog w 93 cs) : ∃ y : Flight, cs.length = 41 ∧ ones cs = true ∧ FlightC 9223372036854775807 (hpOf w) y cs := by
  have ho := h.ones 9 (by kernel_rfl)
  obtain ⟨_, a, _, rfl, ⟨_, h1⟩, b, _, rfl, ⟨_, h2⟩, c, _, rfl, ⟨_, hm⟩, rfl⟩ := h.struct (tys := [3, 3, 91]) Tryz.underlying93 (by kernel_rfl) rfl
  obtain ⟨_, a, _, rfl, ⟨_, m1⟩, b, _, rfl, ⟨_, m2⟩, c, _, rfl, ⟨l3, m3⟩, d, _, rfl, ⟨l4, m4⟩, e, _, rfl, ⟨_, m5⟩, f, _, rfl, ⟨_, m6⟩, g, _, rfl, ⟨_, m7⟩, g8, _, rfl, ⟨l8, m8⟩, g9, _, rfl, ⟨l9, m9⟩, g10, _, rfl, ⟨l10, m10⟩, rfl⟩ := hm.struct (tys := [3, 60, 3, 9, 76, 79, 83, 61, 86, 89]) Tryz.underlying91 (by kernel_rfl) rfl
  obtain ⟨_, a, _, rfl, ⟨_, p1⟩, b, _, rfl, ⟨_, p2⟩, c, _, rfl, ⟨_, p3⟩, d, _, rfl, ⟨_, p4⟩, e, _, rfl, ⟨_, p5⟩, f, _, rfl, ⟨_, p6⟩, g, _, rfl, ⟨lw, p7⟩, rfl⟩ := m7.struct (tys := [60, 35, 3, 3, 77, 80, 81]) Tryz.underlying83 (by kernel_rfl) rfl
  obtain ⟨to, rfl, _⟩ := h1.int Tryz.underlying3
  obtain ⟨seq, rfl, _⟩ := h2.int Tryz.underlying3
  obtain ⟨kd, rfl, _⟩ := m1.int Tryz.underlying3
  obtain ⟨nu, rfl, _⟩ := m2.int Tryz.underlying60
  obtain ⟨a1, rfl⟩ := len1 l3 (by kernel_rfl)
  obtain ⟨a2, rfl⟩ := len1 l4 (by kernel_rfl)
  obtain ⟨rf, _, _, hr⟩ := ref_of m5
  cases hr
  obtain ⟨lt, _, _, b1, b2, b3, pa, qa, rfl, sa⟩ := letter_of m6
  obtain ⟨pn, rfl, _⟩ := p1.int Tryz.underlying60
  obtain ⟨pi, rfl⟩ := id_of p2
  obtain ⟨pk, rfl, _⟩ := p3.int Tryz.underlying3
  obtain ⟨pc, rfl, _⟩ := p4.int Tryz.underlying3
  obtain ⟨pf, qf, fs, rfl, sf⟩ := p5.slice (C := RefC) Tryz.underlying77 (by kernel_rfl) (by decide) fun _ => ref_of
  obtain ⟨pm, qm, ms, rfl, sm⟩ := p6.slice (C := LetterC 9223372036854775807) Tryz.underlying80 (by kernel_rfl) (by decide) fun _ => letter_of
  obtain ⟨wv, rfl⟩ := len1 lw (by kernel_rfl)
  obtain ⟨y1, y2, rfl⟩ := len2 l8 (by kernel_rfl)
  obtain ⟨y3, y4, y5, y6, y7, y8, y9, y10, rfl⟩ := len8 l9 (by kernel_rfl)
  obtain ⟨z1, z2, z3, z4, z5, rfl⟩ := len5 l10 (by kernel_rfl)
  exact ⟨⟨to, seq, ⟨kd, nu, rf, lt, ⟨pn, pi, pk, pc, fs, ms⟩⟩⟩, rfl, ho, a1, a2, b1, b2, b3, pa, qa, pf, qf, pm, qm, wv, y1, y2, y3, y4, y5, y6, y7, y8, y9, y10, z1, z2, z3, z4, z5, rfl, sa, sf, sm⟩
theorem wf_i64 {n : Int} (h : (Lit.int .i64 n).wf = true) : inI64 n := by
  simp [Lit.wf, IntKind.min, IntKind.max, IntKind.signed, IntKind.bits] at h
  unfold inI64; omega
theorem view_of (h : TR enc Tryz.prog w 57 cs) : ∃ y : View, cs.length = 13 ∧ ones cs = true ∧ ViewC 9223372036854775807 (hpOf w) y cs := by
  have ho := h.ones 12 (by kernel_rfl)
  obtain ⟨_, a, _, rfl, ⟨_, h1⟩, b, _, rfl, ⟨l2, h2⟩, c, _, rfl, ⟨_, h3⟩, d, _, rfl, ⟨_, h4⟩, e, _, rfl, ⟨_, h5⟩, f, _, rfl, ⟨_, h6⟩, g, _, rfl, ⟨_, h7⟩, g8, _, rfl, ⟨l8, h8⟩, g9, _, rfl, ⟨l9, h9⟩, g10, _, rfl, ⟨_, h10⟩, g11, _, rfl, ⟨_, h11⟩, g12, _, rfl, ⟨l12, h12⟩, g13, _, rfl, ⟨l13, h13⟩, rfl⟩ :=
    h.struct (tys := [3, 3, 27, 50, 51, 52, 53, 54, 31, 55, 46, 3, 3]) Tryz.underlying57 (by kernel_rfl) rfl
  obtain ⟨m, rfl, hw⟩ := h1.int Tryz.underlying3
  obtain ⟨md, rfl⟩ := len1 l2 (by kernel_rfl)
  obtain ⟨g, _, _, po, co, rfl, s1⟩ := graph_of h3
  obtain ⟨ps, qs, st, rfl, s2⟩ := h4.slice (C := StubC) Tryz.underlying50 (by kernel_rfl) (by decide) fun _ => stub_of
  obtain ⟨pc, qc, sc, rfl, s3⟩ := h5.slice (C := ScionC) Tryz.underlying51 (by kernel_rfl) (by decide) fun _ => scion_of
  obtain ⟨pn, qn, nm, rfl, s4⟩ := h6.slice (C := NamedC) Tryz.underlying52 (by kernel_rfl) (by decide) fun _ => named_of
  obtain ⟨pm, qm, ml, rfl, s5⟩ := h7.slice (C := MailC 9223372036854775807) Tryz.underlying53 (by kernel_rfl) (by decide) fun _ => mail_of
  obtain ⟨w1, rfl⟩ := len1 l8 (by kernel_rfl)
  obtain ⟨w2, rfl⟩ := len1 l9 (by kernel_rfl)
  obtain ⟨pf, qf, fl, rfl, s6⟩ := h10.slice (C := FlightC 9223372036854775807) Tryz.underlying55 (by kernel_rfl) (by decide) fun _ => flight_of
  obtain ⟨pr, qr, rv, rfl, s7⟩ := h11.slice (C := IntC) Tryz.underlying46 (by kernel_rfl) (by decide) fun _ => int_of
  obtain ⟨e1, rfl⟩ := len1 l12 (by kernel_rfl)
  obtain ⟨e2, rfl⟩ := len1 l13 (by kernel_rfl)
  exact ⟨⟨m, g, st, sc, nm, ml, fl, rv⟩, rfl, ho, wf_i64 hw, md, po, co, ps, qs, pc, qc, pn, qn, pm, qm, w1, w2, pf, qf, pr, qr, e1, e2, rfl, s1, s2, s3, s4, s5, s6, s7⟩
/-- an identity -/
theorem idv_of {v : Value} {d : DataW H} {ps : List MemPlace} {r : Go.Reach} {b0 : Nat} (hval : Value.okWide Tryz.prog w r b0 35 v) (h : DataW.Trod enc Tryz.prog w 0 (fun _ => true) true 35 v d ps) : ∃ id : ID, v = .agg (idc id).toArray := by
  obtain ⟨cs, rfl, _⟩ := Go.WideShapes.okWide_struct Tryz.underlying35 hval
  obtain ⟨fuel, hf⟩ := h
  have ht : TR enc Tryz.prog w 35 cs.toList := ⟨fuel, _, hf⟩
  obtain ⟨y, hy⟩ := id_of ht
  exact ⟨y, by rw [← hy]⟩
/-- the argument of the laws -/
theorem views_of {v : Value} {d : DataW H} {ps : List MemPlace} {r : Go.Reach} {b0 : Nat} (hval : Value.okWide Tryz.prog w r b0 22 v) (h : DataW.Trod enc Tryz.prog w 0 (fun _ => true) true 22 v d ps) : ∃ vs : List View, SLB 9223372036854775807 (hpOf w) 13 (ViewC 9223372036854775807) v vs := by
  obtain ⟨a, len, cap, rfl⟩ := Go.WideShapes.okWide_slice Tryz.underlying22 hval
  obtain ⟨fuel, hf⟩ := h
  have ht : TR enc Tryz.prog w 22 [.slice a len cap] := ⟨fuel, _, hf⟩
  obtain ⟨p, c, xs, e, s⟩ := ht.slice (C := ViewC 9223372036854775807) Tryz.underlying22 (by kernel_rfl) (by decide) fun _ => view_of
  cases e
  exact ⟨xs, s⟩
end
end Go.Proofs.YtfhoecgiahpddaaGreat
/-
  FROM A CONTRACT TO A ROW's STEP: what was in memory is as it was; the arguments read as they did.
-/
set_option linter.all false
namespace Go.Mesh
open Go.RowKit
section
variable {H : Type} {enc : TypeId × Value → H} {P : Program} {W W' : World}
/-- the old blocks are as they were -/
structure Same (W W' : World) : Prop where
  os : W'.os = W.os
  output : W'.output = W.output
  block : ∀ b, b < W.heap.size → W'.heap[b]? = W.heap[b]?
theorem Same.kept (x : Same W W') (may : MemPlace → Prop) : W.keptBut W' may := by
  refine ⟨x.os, x.output, fun i hi => ?_⟩
  have hk := (World.keptBut_refl W may).2.2 i hi
  rw [x.block i hi]
  exact hk
theorem Same.at (x : Same W W') {p : MemPlace} (hp : p.block < W.heap.size) : W.sameAt W' p := by
  cases p with
  | cell b off => simp only [World.sameAt, World.cell?]; rw [x.block b hp]
  | map b => exact x.block b hp
theorem TrodAll_same (hl : laidOutB P = true) (x : Same W W') {sp : Nat → Bool} : ∀ (ts : List TypeId) (vs : List Value) (ds : List (DataW H)) (ps : List MemPlace), (∀ t, t ∈ ts → P.readableRec t = true ∧ t < P.types.size) →
    DataW.TrodAll enc P W 0 (fun _ => true) true ts vs ds ps → (∀ p, p ∈ ps → p.block < W.heap.size) → (∀ p, p ∈ ps → sp p.block = true) → DataW.TrodAll enc P W' 0 sp true ts vs ds ps
  | [], [], [], ps, _, h, _, _ => h
  | t :: ts, v :: vs, d :: ds, ps, hr, h, hlt, hs => by
    obtain ⟨p, q, h1, h2, rfl⟩ := h
    obtain ⟨hr1, hr2⟩ := hr t (List.mem_cons_self ..)
    refine ⟨p, q, WideElems.Trod_stays hl hr1 hr2 h1 (fun y hy => x.at (hlt y (List.mem_append_left _ hy))) (fun y hy => hs y (List.mem_append_left _ hy)), ?_, rfl⟩
    exact TrodAll_same hl x ts vs ds q (fun u hu => hr u (List.mem_cons_of_mem _ hu)) h2 (fun y hy => hlt y (List.mem_append_right _ hy)) (fun y hy => hs y (List.mem_append_right _ hy))
theorem calls_of_pspec {f : FuncId} {args : Array Value} {v : Value} (x : PSpec P f args (hpOf W) (fun _ u => u = v)) : Calls P f args W fun e W' => e = .returned v ∧ Same W W' := by
  refine (x W (Holds.all W)).mono ?_
  rintro e W' ⟨u, h', L', rfl, ⟨_, rfl⟩, y⟩
  exact ⟨rfl, y.os, y.output, fun b hb => y.frame b hb (by simp [ids])⟩
/-- what a law that returns true leaves -/
theorem law_post {f : Func} {s : ChangeSpec} {args : Array Value} {ds gs : List (DataW H)} {before : List MemPlace} (hl : laidOutB P = true) (hr : ∀ t, t ∈ f.params.toList → P.readableRec t = true ∧ t < P.types.size)
    (hvars : s.vars = []) (hW : DataW.Whole enc P f.params.toList s.vars false W args.toList ds gs before) (hfn : (s.fn H (ds ++ gs)).results = [.lit (.bool true)] ∧ (s.fn H (ds ++ gs)).args = ds ∧ (s.fn H (ds ++ gs)).vars = []) (hb : P.underlying 4 = some .bool) (hres : f.resultTypes = #[4])
    (x : Same W W') : s.post enc P f false true false false W args (.bool true) W' := by
  have hlt := fun p hp => hW.lt p hp
  obtain ⟨h1, h2, h3⟩ := hfn
  have hW' := hW
  obtain ⟨p, q, hA, hV, rfl, hfz, hnd⟩ := hW
  have hq : q = [] := by
    rw [hvars] at hV
    cases gs with
    | nil => exact hV
    | cons g gs => exact hV.elim
  subst hq
  refine ⟨ds, gs, p ++ [], [], p, [], hW', ?_, ?_, ?_, x.kept _, fun h => by cases h⟩
  · rw [h1, hres]
    exact trodAll_cons_mk (p' := []) (shut_bool hb true) rfl
  · rw [h2]
    exact TrodAll_same hl x _ _ _ _ hr hA (fun y hy => hlt y (by simpa using hy)) (fun y hy => by simpa using hlt y (by simpa using hy))
  · rw [h3, hvars]; rfl
end
end Go.Mesh
/-
  ARGUMENTS, OPENED FURTHER: a slice's capacity; an unsigned byte.
-/
set_option linter.all false
namespace Go.Proofs.YtfhoecgiahpddaaGreat
open Go.Mesh Go.RowKit Go.ChangeShapes
set_option linter.unusedVariables false
set_option maxRecDepth 100000
section
variable {H : Type} {enc : TypeId × Value → H} {w : World}
theorem TR.cap {P : Program} {t e : TypeId} {p : Option Addr} {n c : Nat} (h : TR enc P w t [.slice p n c]) (ht : P.underlying t = some (.slice e)) : n ≤ c := by
  obtain ⟨_, _, h⟩ := h
  rcases DataW.trod_slice ht h with ⟨e1, _⟩ | ⟨a, len, cap, elems, rest, n', _, e1, _, _, hlc, hcm, hel2, hget, _⟩
  · cases e1; exact Nat.le_refl _
  · cases e1; exact hlc
theorem viewsC_of {v : Value} {d : DataW H} {ps : List MemPlace} {r : Go.Reach} {b0 : Nat} (hval : Value.okWide Tryz.prog w r b0 22 v) (h : DataW.Trod enc Tryz.prog w 0 (fun _ => true) true 22 v d ps) :
    ∃ (p : Option Addr) (c : Nat) (vs : List View), v = .slice p vs.length c ∧ vs.length ≤ c ∧ SLB 9223372036854775807 (hpOf w) 13 (ViewC 9223372036854775807) (.slice p vs.length c) vs := by
  obtain ⟨a, len, cap, rfl⟩ := Go.WideShapes.okWide_slice Tryz.underlying22 hval
  obtain ⟨fuel, hf⟩ := h
  have ht : TR enc Tryz.prog w 22 [.slice a len cap] := ⟨fuel, _, hf⟩
  have hc := TR.cap ht Tryz.underlying22
  obtain ⟨p, c, xs, e, s⟩ := ht.slice (C := ViewC 9223372036854775807) Tryz.underlying22 (by kernel_rfl) (by decide) fun _ => view_of
  cases e
  exact ⟨_, _, xs, rfl, hc, s⟩
theorem u8_of {v : Value} {d : DataW H} {ps : List MemPlace} {r : Go.Reach} {b0 : Nat} (hval : Value.okWide Tryz.prog w r b0 5 v) (h : DataW.Trod enc Tryz.prog w 0 (fun _ => true) true 5 v d ps) : ∃ m : Nat, m ≤ 255 ∧ v = .int .u8 (m : Int) := by
  obtain ⟨n, rfl, -⟩ := open_int Tryz.underlying5 hval h
  obtain ⟨fuel, hf⟩ := h
  have ht : TR enc Tryz.prog w 5 [.int .u8 n] := ⟨fuel, _, hf⟩
  obtain ⟨m, e, hw⟩ := ht.int Tryz.underlying5
  cases e
  simp [Lit.wf, IntKind.min, IntKind.max, IntKind.signed, IntKind.bits] at hw
  exact ⟨n.toNat, by omega, by rw [Int.toNat_of_nonneg (by omega)]⟩
end
end Go.Proofs.YtfhoecgiahpddaaGreat
/-
  ARGUMENTS OF A BOUNDED BULK, OPENED.
-/
set_option linter.all false
namespace Go.Proofs.YtfhoecgiahpddaaGreat
open Go.Mesh Go.RowKit Go.ChangeShapes
set_option linter.unusedVariables false
set_option maxRecDepth 100000
section
variable {H : Type} {enc : TypeId × Value → H} {P : Program} {w : World} {t e : TypeId} {cs : List Value} {B : Nat}
theorem bulk_pos (d : DataW H) : 1 ≤ Rows.uptoBulk d := by
  cases d with
  | lit l => cases l <;> simp [Rows.uptoBulk]
  | _ => simp [Rows.uptoBulk]
theorem bulk_mem {d : DataW H} : ∀ {l : List (DataW H)}, d ∈ l → Rows.uptoBulk d ≤ Rows.uptoBulkAll l
  | [], h => by cases h
  | x :: l, h => by
    rw [Rows.uptoBulkAll]
    rcases List.mem_cons.1 h with e | e
    · subst e; omega
    · have := bulk_mem e; omega
theorem bulk_len : ∀ l : List (DataW H), l.length ≤ Rows.uptoBulkAll l
  | [] => by simp
  | x :: l => by
    rw [Rows.uptoBulkAll]
    have h1 := bulk_len l
    have h2 := bulk_pos x
    simp only [List.length_cons]; omega
def TRb (enc : TypeId × Value → H) (P : Program) (w : World) (B : Nat) (t : TypeId) (cs : List Value) : Prop := ∃ fuel x, DataW.trod enc P w 0 (fun _ => true) true fuel t cs = some x ∧ Rows.uptoBulk x.1 ≤ B
theorem TRb.tr (h : TRb enc P w B t cs) : TR enc P w t cs := by
  obtain ⟨f, x, h, _⟩ := h; exact ⟨f, x, h⟩
theorem TRb.struct {fs : Array Field} {tys : List TypeId} (h : TRb enc P w B t cs) (ht : P.underlying t = some (.struct fs)) (hb : tilesB P fs.toList 0 (P.cellsOf t) = true) (hty : fs.toList.map (·.type) = tys) : cs.length = P.cellsOf t ∧ Parts (fun t a => a.length = P.cellsOf t ∧ TRb enc P w B t a) tys cs := by
  obtain ⟨_, _, h, hk⟩ := h
  obtain ⟨xs, n, _, hx0, hl, hx, hf⟩ := DataW.trod_struct ht h
  subst hty
  subst hx0
  refine ⟨hl, ?_⟩
  have := parts_of (P := P) (Q := fun t a => a.length = P.cellsOf t ∧ TRb enc P w B t a) (cs := cs) fs.toList 0 (by rw [hl]; exact hb) fun f hm hlen => ?_
  · simpa using this
  · obtain ⟨i, hi⟩ := List.getElem?_of_mem hm
    have hi' : fs[i]? = some f := by simpa using hi
    have := hf i f hi'
    have hlt : i < xs.length := by rw [hx]; exact (Array.getElem?_eq_some_iff.1 hi').1
    rw [List.getElem?_eq_getElem hlt] at this
    refine ⟨hlen, n, _, this, ?_⟩
    have h1 := bulk_mem (d := xs[i].1) (l := xs.map (·.1)) (List.mem_map.2 ⟨xs[i], List.getElem_mem hlt, rfl⟩)
    simp only [Rows.uptoBulk] at hk
    omega
theorem TRb.slice {α : Type} {C : CR α} {k : Nat} (h : TRb enc P w B t cs) (ht : P.underlying t = some (.slice e)) (hk : P.cellsOf e = k) (h0 : 0 < k)
    (hel : ∀ cs, TRb enc P w B e cs → ∃ y, cs.length = k ∧ ones cs = true ∧ C (hpOf w) y cs) : ∃ p c, ∃ xs : List α, cs = [.slice p xs.length c] ∧ SLB B (hpOf w) k C (.slice p xs.length c) xs := by
  obtain ⟨_, _, h, hbk⟩ := h
  rcases DataW.trod_slice ht h with ⟨rfl, _⟩ | ⟨a, len, cap, elems, rest, n, _, rfl, hx0, _, hlc, hcm, hel2, hget, _⟩
  · exact ⟨none, 0, [], rfl, by simp, .inl ⟨none, 0, rfl, rfl⟩⟩
  · subst hx0
    simp only [Rows.uptoBulk] at hbk
    have hlen := bulk_len (elems.map (·.1))
    rw [List.length_map, hel2] at hlen
    rw [hk] at hget
    by_cases hz : len = 0
    · subst hz
      exact ⟨some a, cap, [], rfl, by simp, .inl ⟨some a, cap, rfl, rfl⟩⟩
    have hcells : ∀ i, i < len → ∃ y, ∃ us : List Value, us.length = k ∧ ones us = true ∧ C (hpOf w) y us ∧ ∀ j, j < k → w.cell? ((a.add (i * k)).add j) = us[j]? := by
      intro i hi
      have hg := hget i hi
      have hi2 : i < elems.length := by rw [hel2]; exact hi
      rw [List.getElem?_eq_getElem hi2] at hg
      cases hc : w.cells? 0 (a.add (i * k)) k with
      | none => rw [hc] at hg; cases hg
      | some us =>
        rw [hc] at hg
        have h1 := bulk_mem (d := elems[i].1) (l := elems.map (·.1)) (List.mem_map.2 ⟨elems[i], List.getElem_mem hi2, rfl⟩)
        obtain ⟨y, hl, ho, hC⟩ := hel us ⟨n, _, hg, by omega⟩
        simp only [World.cells?, Nat.zero_le, if_true] at hc
        exact ⟨y, us, hl, ho, hC, fun j hj => mapM_some_get hc j j (by simp [hj])⟩
    obtain ⟨b, off, spot⟩ := a
    have hsp : spot = none := by
      obtain ⟨y, us, hl, _, _, hc⟩ := hcells 0 (by omega)
      have h00 := hc 0 h0
      rw [List.getElem?_eq_getElem (by omega)] at h00
      have hs := World.cell?_spot h00
      simpa [Addr.add] using hs
    subst hsp
    have hone : ∀ i, i < len → ∃ y, ∃ us : List Value, us.length = k ∧ ones us = true ∧ C (hpOf w) y us ∧ At (hpOf w) b (off + i * k) us := by
      intro i hi
      obtain ⟨y, us, hl, ho, hC, hc⟩ := hcells i hi
      refine ⟨y, us, hl, ho, hC, ?_⟩
      have h00 := hc 0 h0
      rw [List.getElem?_eq_getElem (by omega)] at h00
      simp only [addr_add, World.cell?] at hc h00
      cases hb : w.heap[b]? with
      | none => simp only [hb] at h00; cases h00
      | some ob =>
        simp only [hb] at h00 hc
        cases ob with
        | cells arr ty fz =>
          refine ⟨arr, ty, fz, hb, fun j v hv => ?_⟩
          have := hc j (by rw [← hl]; exact (List.getElem?_eq_some_iff.1 hv).1)
          simp only [Option.isSome_none, Bool.false_eq_true, if_false] at this
          rw [this]; exact hv
        | _ => cases h00
    obtain ⟨xs, hl, hx⟩ := list_of len hone
    refine ⟨some ⟨b, off, none⟩, cap, xs, by rw [hl], by rw [hl]; omega, ?_⟩
    exact .inr ⟨b, off, cap, rfl, fun i y hy => hx i y hy⟩
theorem nodeB_of (h : TRb enc Tryz.prog w B 38 cs) : ∃ y : Nd, cs.length = 5 ∧ ones cs = true ∧ NodeC B (hpOf w) y cs := by
  obtain ⟨_, a, _, rfl, ⟨_, h1⟩, b, _, rfl, ⟨_, h2⟩, c, _, rfl, ⟨_, h3⟩, d, _, rfl, ⟨_, h4⟩, rfl⟩ := h.struct (tys := [35, 3, 3, 36]) Tryz.underlying38 (by kernel_rfl) rfl
  obtain ⟨x1, rfl⟩ := id_of h1.tr
  obtain ⟨x2, rfl, _⟩ := h2.tr.int Tryz.underlying3
  obtain ⟨x3, rfl, _⟩ := h3.tr.int Tryz.underlying3
  obtain ⟨p, c, xs, rfl, s⟩ := h4.slice (C := ValC) Tryz.underlying36 (by kernel_rfl) (by decide) fun _ z => val_of z.tr
  exact ⟨⟨x1, x2, x3, xs⟩, rfl, rfl, p, c, rfl, s⟩
theorem graphB_of (h : TRb enc Tryz.prog w B 27 cs) : ∃ y : List Nd, cs.length = 1 ∧ ones cs = true ∧ GraphC B (hpOf w) y cs := by
  obtain ⟨_, a, _, rfl, ⟨_, h1⟩, rfl⟩ := h.struct (tys := [25]) Tryz.underlying27 (by kernel_rfl) rfl
  obtain ⟨p, c, xs, rfl, s⟩ := h1.slice (C := NodeC B) Tryz.underlying25 (by kernel_rfl) (by decide) fun _ => nodeB_of
  exact ⟨xs, rfl, rfl, p, c, rfl, s⟩
theorem graphV_of {v : Value} {d : DataW H} {ps : List MemPlace} {r : Go.Reach} {b0 : Nat} (hval : Value.okWide Tryz.prog w r b0 27 v) (h : DataW.Trod enc Tryz.prog w 0 (fun _ => true) true 27 v d ps) (hb : Rows.uptoBulk d ≤ B) : ∃ us g, v = .agg us.toArray ∧ GraphC B (hpOf w) g us := by
  obtain ⟨cs, rfl, _⟩ := Go.WideShapes.okWide_struct Tryz.underlying27 hval
  obtain ⟨fuel, hf⟩ := h
  have ht : TRb enc Tryz.prog w B 27 cs.toList := ⟨fuel, _, hf, hb⟩
  obtain ⟨y, _, _, hy⟩ := graphB_of ht
  exact ⟨cs.toList, y, rfl, hy⟩
theorem idsV_of {v : Value} {d : DataW H} {ps : List MemPlace} {r : Go.Reach} {b0 : Nat} (hval : Value.okWide Tryz.prog w r b0 31 v) (h : DataW.Trod enc Tryz.prog w 0 (fun _ => true) true 31 v d ps) (hb : Rows.uptoBulk d ≤ B) : ∃ ids : List ID, SLB B (hpOf w) 2 IDC v ids := by
  obtain ⟨a, len, cap, rfl⟩ := Go.WideShapes.okWide_slice Tryz.underlying31 hval
  obtain ⟨fuel, hf⟩ := h
  have ht : TRb enc Tryz.prog w B 31 [.slice a len cap] := ⟨fuel, _, hf, hb⟩
  obtain ⟨p, c, xs, e, s⟩ := ht.slice (C := IDC) Tryz.underlying31 (by kernel_rfl) (by decide) fun _ z => idE_of z.tr
  cases e
  exact ⟨xs, s⟩
end
end Go.Proofs.YtfhoecgiahpddaaGreat
/- For every list of views, graph and list of identities of bulk at most 1048576 together: ObserverJudges returns true and leaves its arguments as they were. -/
set_option linter.all false
namespace Go.Proofs.YtfhoecgiahpddaaGreat
open Go.Mesh Go.RowKit Go.ChangeShapes Go.WideShapes Go.ChangeAt
set_option linter.unusedVariables false
theorem judges_own : ownKnob Tryz.prog.godebug = none := by kernel_rfl
theorem judges_laid : laidOutB Tryz.prog = true := by kernel_rfl
set_option maxRecDepth 100000 in
theorem judges_lifted (os : Os) (started : os.Started) (H : Type) (enc : TypeId × Value → H) (F0 : Stop.Interp) :
    ReturnsInHanded {} Tryz.checked os 6 .any ((Rows.OpenSpec.upto Rows.observerJudgesSpec).pre6 enc Tryz.prog Tryz.f6 Rows.observerJudgesUptoRow.domain false) (((Rows.OpenSpec.upto Rows.observerJudgesSpec).at F0).post enc Tryz.prog Tryz.f6 false true false false) := by
  refine returnsInHanded_of_cond (C := Tryz.checked) (s := Rows.OpenSpec.upto Rows.observerJudgesSpec) (k := Rows.uptoSmall) rfl judges_own started (by kernel_rfl) Tryz.func6
    (OpenSpec.witness (enc := enc) (C := Tryz.checked) (s := Rows.OpenSpec.upto Rows.observerJudgesSpec) (k := Rows.uptoSmall) rfl false ⟨#[], #[.slice none 0 0, .agg #[.slice none 0 0], .slice none 0 0], []⟩ 8 (by kernel_rfl) (by kernel_rfl) (by kernel_rfl)
      (x := ([.nil, .agg [.nil], .nil], [], [])) (by kernel_rfl) (by kernel_rfl) (by simp [Rows.uptoSmall, Rows.uptoBulkAll, Rows.uptoBulk])) ?_
  intro W base args ds gs before hval0 hW hcnd hkk _
  have hval : ∀ (j : Nat) t v, Tryz.f6.params[j]? = some t → args[j]? = some v → Value.okWide Tryz.prog W .any base t v := hval0
  have hW' := hW
  obtain ⟨p, q, hA0, hV, rfl, hfz, hnd⟩ := hW
  have hA : DataW.TrodAll enc Tryz.prog W 0 (fun _ => true) true Tryz.f6.params.toList args.toList ds p := hA0
  rw [Tryz.params6] at hA hval
  obtain ⟨v0, vs0, d0, ds0, p0, q0, hargs, rfl, rfl, h0, r0⟩ := trodAll_cons hA
  obtain ⟨v1, vs1, d1, ds1, p1, q1, rfl, rfl, rfl, h1, r1⟩ := trodAll_cons r0
  obtain ⟨v2, vs2, d2, ds2, p2, q2, rfl, rfl, rfl, h2, r2⟩ := trodAll_cons r1
  obtain ⟨rfl, rfl, rfl⟩ := trodAll_nil r2
  obtain rfl : args = #[v0, v1, v2] := by cases args; simp_all
  obtain ⟨rfl, rfl⟩ := trodVars_none hV
  have hsm : Rows.uptoBulk d0 + (Rows.uptoBulk d1 + (Rows.uptoBulk d2 + 0)) ≤ 1048576 := by
    have := hkk
    simpa [Rows.uptoSmall, Rows.uptoBulkAll] using this
  obtain ⟨vs, hs⟩ := views_of (hval 0 22 v0 rfl rfl) h0
  obtain ⟨us, g, rfl, hg⟩ := graphV_of (B := 4398046511104) (hval 1 27 v1 rfl rfl) h1 (by omega)
  obtain ⟨ids, hi⟩ := idsV_of (B := 4398046511104) (hval 2 31 v2 rfl rfl) h2 (by omega)
  refine (calls_of_pspec (judges_s hs hg hi)).mono fun e W' ⟨he, hg⟩ => ?_
  subst he
  refine ⟨_, rfl, law_post (s := (Rows.OpenSpec.upto Rows.observerJudgesSpec).at F0) judges_laid ?_ rfl hW' ⟨rfl, rfl, rfl⟩ Tryz.underlying4 (by kernel_rfl) hg⟩
  rw [Tryz.params6]
  intro t ht
  have : t = 22 ∨ t = 27 ∨ t = 31 := by simpa using ht
  rcases this with rfl | rfl | rfl
  all_goals exact ⟨by kernel_rfl, of_decide_eq_true (by kernel_rfl)⟩
theorem judges_over : Rows.observerJudgesUptoRow.holds Tryz.pinned (Rows.OpenSpec.upto Rows.observerJudgesSpec) :=
  OpenClaim.holds_of_cond 6 Tryz.f6 rfl rfl rfl rfl rfl rfl rfl ⟨rfl, rfl, rfl, rfl, rfl⟩ rfl rfl rfl rfl rfl (by kernel_rfl) Tryz.func6 (by kernel_rfl)
    (of_decide_eq_true (by kernel_rfl)) (by unfold Func.isWrapper; first | (rw [if_pos (by decide +kernel)]; kernel_rfl) | (rw [if_neg (by decide +kernel)]; exact ⟨rfl, rfl⟩))
    (fun os started H enc _ F => judges_lifted os started H enc F)
theorem observerJudges_holds : Rows.ObserverJudgesUptoSaid := judges_over
#print axioms observerJudges_holds
end Go.Proofs.YtfhoecgiahpddaaGreat
