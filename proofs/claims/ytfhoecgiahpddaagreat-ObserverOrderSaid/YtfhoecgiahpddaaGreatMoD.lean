/-
  Part D of the proof's ground: Oe, Pe, Pf, Ea, Ga, Rules8, Rules10, Draws2, Draws3, Jc, Jd, Je, Pg, Pb, Pc, La, Rules9, Rules11, Draws4.
-/
import Derived.Test.YtfhoecgiahpddaaGreatMoA
import Derived.Test.YtfhoecgiahpddaaGreatMoB
import Derived.Test.YtfhoecgiahpddaaGreatMoC
/-
  CONTRACTS: observer.Safe.
-/
set_option linter.all false
namespace Go.Proofs.YtfhoecgiahpddaaGreat
open Go.Mesh Go.RowKit
set_option maxRecDepth 100000
set_option linter.unusedVariables false
set_option maxHeartbeats 4000000
attribute [local irreducible] WP OPS ANY ANYo LG LV FSpec PSpec QOP OPc OPw thenQ blockQ roundQ roundF retQ retM Rd At SLB OS cmpI orI cmpID namedB valB nodeB kindB validG valAux idxI findG zeroV viewOf vwAt idxOf recv flyB scionOf moveOf numberedOf idOf valueOf mget mput localB carriedB stubOf followF followOf flOf flightsOf flPre setL minusL compactL putI mergeN insN insAll unionR NMap Coll retN bodyS GMap Dfs refsV refsOf reachL movedOf movedG graphParts graphR isMove flightIDs mailIDs viewIDs rawRoots rootsR reachR deadN viewObjs garbageOf garbageR objsL
def thereB (g : List Nd) (id : ID) : Bool := match findG g id with | some n => decide (n.kind ≠ 3) | none => false
def oddB (g : List Nd) (v : Val) : Bool := decide (v.1 = 2) && !thereB g v.2.2
def badNode (g : List Nd) (n : Nd) : Bool := decide (n.kind ≠ 2) && n.fields.any (oddB g)
def lostF (vs : List View) (i : View × Flight) : Bool := decide (i.2.msg.kind = 0) && decide (numberedOf vs i.1.machine i.2.to i.2.msg.number = (0, 0))
def badStub (vs : List View) (live : List ID) (v : View) (s : StubE) : Bool := !s.weak && (!s.dead && (decide (s.id ∈ live) && decide ((followOf vs v.machine s.id).2 ≠ 0)))
def safe4 (vs : List View) (live : List ID) : Int := if vs.any (fun v => v.stubs.any (badStub vs live v)) then 11 else 0
def safe3 (vs : List View) (live : List ID) : Int := if (flightsOf vs).any (lostF vs) then 6 else safe4 vs live
def safe2 (vs : List View) (g : List Nd) (live : List ID) : Int := if live.any (fun id => badNode g ((findG g id).getD zeroN)) then 6 else safe3 vs live
def safe1 (vs : List View) (g : List Nd) (live roots : List ID) : Int := if (live ++ roots).any (fun id => !thereB g id) then 6 else safe2 vs g live
noncomputable def safeR (vs : List View) : Int := if (graphR vs).2 = 0 then safe1 vs (graphR vs).1 (reachL (graphR vs).1 (rootsR vs)) (rootsR vs) else (graphR vs).2
theorem badNode_weak {g : List Nd} {n : Nd} (h : n.kind = 2) : badNode g n = false := by simp [badNode, h]
theorem badNode_any {g : List Nd} {n : Nd} (h : ¬ n.kind = 2) : badNode g n = n.fields.any (oddB g) := by simp [badNode, h]
theorem lostF_other {vs : List View} {i : View × Flight} (h : ¬ i.2.msg.kind = 0) : lostF vs i = false := by simp [lostF, h]
theorem lostF_zero {vs : List View} {i : View × Flight} (h : i.2.msg.kind = 0) : lostF vs i = decide (numberedOf vs i.1.machine i.2.to i.2.msg.number = (0, 0)) := by simp [lostF, h]
theorem badStub_def (vs : List View) (live : List ID) (v : View) (s : StubE) : badStub vs live v s = (!s.weak && (!s.dead && (decide (s.id ∈ live) && decide ((followOf vs v.machine s.id).2 ≠ 0)))) := rfl
attribute [local irreducible] thereB oddB badNode lostF badStub safe1 safe2 safe3 safe4 safeR
theorem there_s {h : Frag} {g : List Nd} {us : List Value} {b : Nat} {id : ID} (hb : At h b 0 us) (hg : GraphC 4398046511104 h g us) : PSpec Tryz.prog 63 ([Value.agg (idc id).toArray] ++ [ptr b 0]).toArray h (fun _ v => v = .bool (thereB g id)) := by
  obtain ⟨p, c, rfl, hf⟩ := hg
  obtain ⟨i1, i2⟩ := id
  refine pspec_of (vs := [.agg (idc (i1, i2)).toArray, ptr b 0]) Tryz.func63 Tryz.ntmps63 rfl rfl ?_
  (focus (refine Wr ?_; refine S_c rfl rfl rfl (C_box rfl rfl ?_); intro b0_1; refine Sm rfl ?_; refine On ?_; refine Wr ?_; refine S_load rfl rfl rfl rfl rfl ?_; refine L_agg (Rd.pers ‹_›) (ty rfl) (by first | rfl | assumption) ?_; refine S_load rfl rfl rfl rfl rfl ?_; refine L_agg (Rd.own m0) (ty rfl) (by first | rfl | assumption) ?_; refine S_c rfl rfl rfl (C_call (find_s ⟨_, _, rfl, by assumption⟩) rfl rfl ⟨_, _, rfl, ⟨_, _, rfl, rfl, rfl⟩, rfl⟩ (cal rfl) ?_); rintro h0_2 _ l0_2 ⟨vf0_2, rfl, pn0_2, qn0_2, rfl, fn0_2⟩; replace hf := hf.up l0_2; replace hb := hb.up l0_2; refine Sm rfl ?_; refine S_q rfl rfl rfl (Q_extract rfl rfl rfl) ?_; refine S_q rfl rfl rfl (Q_extract rfl rfl rfl) ?_; refine S_c rfl rfl rfl (C_alloc rfl (zer rfl) ?_); intro b0_3; refine S_w0 rfl rfl (W_all rfl rfl rfl (ty rfl) u0 (by first | rfl | assumption) (by first | rfl | assumption) (by first | rfl | assumption | exact ones_sub ‹_› _ _) ?_); refine Sm rfl ?_; refine On ?_; refine Wr ?_; refine Sm rfl ?_; refine Sm rfl ?_; refine S_gsplit rfl rfl rfl rfl (fun c0_4 => ?_) (fun c0_4 => ?_) <;> (first | (simp [*] at c0_4; done) | (try simp at c0_4)); (focus (refine S_gq rfl rfl rfl rfl rfl rfl (Q_fieldAddr rfl rfl (fld rfl rfl)) ?_; refine S_gload rfl rfl rfl rfl rfl rfl rfl rfl ?_; refine L_fld (Rd.own m0) (ty rfl) rfl ?_; refine S_gq rfl rfl rfl rfl rfl rfl (Q_cmp rfl rfl rfl rfl) ?_; refine S_q rfl rfl rfl (Q_pick_t rfl rfl rfl) ?_; refine Sm rfl ?_; refine On ?_; refine WP_ret ?_)); rotate_left 1; (focus (refine Sn rfl ?_; refine Sn rfl ?_; refine Sn rfl ?_; refine S_q rfl rfl rfl (Q_pick_f rfl rfl rfl) ?_; refine Sm rfl ?_; refine On ?_; refine WP_ret ?_)); rotate_left 1))
  all_goals refine pret (.inl rfl) rfl ⟨_, _, rfl, rfl, rfl⟩ ?_
  all_goals (rw [thereB]; cases hx : findG g (i1, i2) <;> simp_all [resOf]; try rfl)
theorem odd_s {h : Frag} {g : List Nd} {us : List Value} {b b8 : Nat} {v : Val} (h8 : At h b8 0 [.func (.func 63) #[] #[ptr b 0]]) (hb : At h b 0 us) (hg : GraphC 4398046511104 h g us) : PSpec Tryz.prog 65 ([Value.agg (vlc v).toArray] ++ [ptr b8 0]).toArray h (fun _ u => u = .bool (oddB g v)) := by
  obtain ⟨v1, v2, v3, v4⟩ := v
  have hfn := fun id : ID => there_s (id := id) hb hg
  have hcal : callOk Tryz.prog 63 = true := cal rfl
  refine pspec_of (vs := [.agg (vlc (v1, v2, v3, v4)).toArray, ptr b8 0]) Tryz.func65 Tryz.ntmps65 rfl rfl ?_
  (focus (refine Wr ?_; refine S_c rfl rfl rfl (C_box rfl rfl ?_); intro b0_1; refine Sm rfl ?_; refine On ?_; refine Wr ?_; refine Sf rfl rfl rfl rfl rfl (fld rfl rfl) ?_; refine S_load rfl rfl rfl rfl rfl ?_; refine L_fld (Rd.own m0) (ty rfl) rfl ?_; refine Sc rfl rfl rfl rfl rfl rfl rfl ?_; refine Sm rfl ?_; refine S_gsplit rfl rfl rfl rfl (fun c0_2 => ?_) (fun c0_2 => ?_) <;> (first | (simp [*] at c0_2; done) | (try simp at c0_2)); (focus (refine S_gload rfl rfl rfl rfl rfl rfl rfl rfl ?_; refine L_one (Rd.pers ‹_›) (ty rfl) ?_; refine S_gq rfl rfl rfl rfl rfl rfl (Q_fieldAddr rfl rfl (fld rfl rfl)) ?_; refine S_gload rfl rfl rfl rfl rfl rfl rfl rfl ?_; refine L_sub (Rd.own m0) (ty rfl) rfl ?_; refine S_gc rfl rfl rfl rfl rfl rfl (C_callCv (hfn _) rfl rfl rfl ⟨_, _, rfl, rfl, rfl⟩ hcal ?_); refine S_gq rfl rfl rfl rfl rfl rfl (Q_not rfl rfl) ?_; refine S_q rfl rfl rfl (Q_pick_t rfl rfl rfl) ?_; refine Sm rfl ?_; refine On ?_; refine WP_ret ?_)); rotate_left 1; (focus (refine Sn rfl ?_; refine Sn rfl ?_; refine Sn rfl ?_; refine Sn rfl ?_; refine Sn rfl ?_; refine S_q rfl rfl rfl (Q_pick_f rfl rfl rfl) ?_; refine Sm rfl ?_; refine On ?_; refine WP_ret ?_)); rotate_left 1))
  all_goals refine pret (.inl rfl) rfl ⟨_, _, rfl, rfl, rfl⟩ ?_
  all_goals (simp_all [resOf, oddB]; try rfl)
theorem safe_s {h : Frag} {a : Value} {vs : List View} (hs : SL h 13 (ViewC 4398046511104) a vs) (sm : Small vs) : PSpec Tryz.prog 25 #[a] h (fun _ v => v = .int .i64 (safeR vs)) := by
  have hlen := sm.len
  obtain ⟨_, hgl, hgf⟩ := sm.graph
  have hrl := roots_len sm
  obtain ⟨pv, cv, rfl⟩ := hs.slice
  refine pspec_ofN (vs := [.slice pv vs.length cv]) Tryz.func25 Tryz.ntmps25 rfl rfl ?_
  (focus (refine Wr ?_; refine S_c rfl rfl rfl (C_alloc rfl (zer rfl) ?_); intro b0_1; refine On ?_; refine Wr ?_; refine Sm rfl ?_; refine S_c rfl rfl rfl (C_call (graph_s ‹_› ‹_›) rfl rfl ⟨_, _, rfl, rfl, rfl⟩ (cal rfl) ?_); rintro h0_2 _ l0_2 ⟨_, rfl, pg0_2, qg0_2, rfl, fg0_2⟩; replace hs := hs.up l0_2; refine Sm rfl ?_; refine S_q rfl rfl rfl (Q_extract rfl rfl rfl) ?_; refine S_q rfl rfl rfl (Q_extract rfl rfl rfl) ?_; refine S_c rfl rfl rfl (C_alloc rfl (zer rfl) ?_); intro b0_3; refine S_w0 rfl rfl (W_all rfl rfl rfl (ty rfl) u0 (by first | rfl | assumption) (by first | rfl | assumption) (by first | rfl | assumption | exact ones_sub ‹_› _ _) ?_); refine Sm rfl ?_; refine On ?_; refine WP_seq ?_; refine Wr ?_; refine Sm rfl ?_; refine Sc rfl rfl rfl rfl rfl rfl rfl ?_; refine On ?_; refine WP_cond rfl (fun c0_4 => ?_) (fun c0_4 => ?_) <;> (first | (simp [*] at c0_4; done) | (try simp at c0_4)); (focus (refine Wr ?_; refine Sm rfl ?_; refine S_w0 rfl rfl (W_one rfl rfl rfl (ty rfl) u1 rfl rfl rfl ?_); refine On ?_; refine WP_ret ?_; refine then_r ?_)); rotate_left 1; (focus (refine WP_skip ?_; refine then_n ?_; refine Wr ?_; refine Sm rfl ?_; refine S_c rfl rfl rfl (C_call (of_s ‹_›) rfl rfl ⟨_, _, rfl, rfl, rfl⟩ (cal rfl) ?_); rintro h0_5 _ l0_5 ⟨pf0_5, qf0_5, mb0_5, rfl, ff0_5⟩; replace fg0_2 := fg0_2.up l0_5; replace hs := hs.up l0_5; refine Sm rfl ?_; refine S_c rfl rfl rfl (C_call (roots_s ‹_› ‹_›) rfl rfl ⟨_, _, rfl, rfl, rfl⟩ (cal rfl) ?_); rintro h0_6 _ l0_6 ⟨p0_6, q0_6, rfl, f0_6⟩; replace ff0_5 := ff0_5.up l0_6; replace fg0_2 := fg0_2.up l0_6; replace hs := hs.up l0_6; refine S_c rfl rfl rfl (C_alloc rfl (zer rfl) ?_); intro b0_7; refine S_w0 rfl rfl (W_all rfl rfl rfl (ty rfl) u0 (by first | rfl | assumption) (by first | rfl | assumption) (by first | rfl | assumption | exact ones_sub ‹_› _ _) ?_); refine Sm rfl ?_; refine On ?_; refine Wr ?_; refine S_load rfl rfl rfl rfl rfl ?_; refine L_agg (Rd.own m1) (ty rfl) (by first | rfl | assumption) ?_; refine Sm rfl ?_; refine S_c rfl rfl rfl (C_callF (reach_s ⟨_, _, rfl, by assumption⟩ ‹_› (by omega) (by omega) ‹_›) rfl rfl ⟨_, _, rfl, ⟨_, _, rfl, rfl, rfl⟩, rfl⟩ (cal rfl) ?_); rintro h0_8 m0_8 _ l0_8 ⟨p0_8, q0_8, rfl, o0_8⟩; replace f0_6 := f0_6.up l0_8; replace ff0_5 := ff0_5.up l0_8; replace fg0_2 := fg0_2.up l0_8; replace hs := hs.up l0_8; refine Sm rfl ?_; refine On ?_; refine Wr ?_; refine S_q rfl rfl rfl (Q_makeFunc rfl rfl ⟨_, _, rfl, rfl, rfl⟩) ?_; refine S_c rfl rfl rfl (C_alloc rfl (zer rfl) ?_); intro b0_9; refine S_w0 rfl rfl (W_one rfl rfl rfl (ty rfl) u0 rfl rfl rfl ?_); refine On ?_; refine WP_seq ?_; refine Wr ?_; refine Sm rfl ?_; refine Sm rfl ?_; refine S_c rfl rfl rfl (C_buildSlice rfl (elm rfl) (zer rfl) rfl ⟨_, _, _, rfl, rfl, rfl, rfl, ⟨_, _, _, rfl, rfl, rfl, rfl, rfl, rfl⟩, rfl⟩ rfl rfl ?_); intro b0_10)); rotate_left 1))
  · refine nretP [_, _] (List.Sublist.refl _) (.inl rfl) rfl ⟨_, _, _, rfl, Loads_one (Rd.own m1) (ty rfl), rfl, rfl⟩ ?_
    simp only [resOf]; rw [safeR, if_neg c0_4]; rfl
  have hsafe : safeR vs = safe1 vs (graphR vs).1 (reachL (graphR vs).1 (rootsR vs)) (rootsR vs) := by rw [safeR, if_pos c0_4]
  have hlv : (reachL (graphR vs).1 (rootsR vs)).length ≤ 1000000 := Nat.le_trans (reachL_length _ _) hgl
  rw [hsafe]
  generalize hlive : reachL (graphR vs).1 (rootsR vs) = live at *
  generalize hroots : rootsR vs = roots at *
  generalize hgr : (graphR vs).1 = g at *
  (focus (refine OPS_keepM [] [_] _ rfl ?_; rintro h1_k l1_k k1_k; have a1_k := at_of_keep k1_k; clear k1_k; replace ff0_5 := ff0_5.up l1_k; replace hs := hs.up l1_k; replace o0_8 := o0_8.up l1_k; replace f0_6 := f0_6.up l1_k; replace fg0_2 := fg0_2.up l1_k))
  (focus (refine OPS_keepM [] [_] _ rfl ?_; rintro h2_k l2_k k2_k; have a2_k := at_of_keep k2_k; clear k2_k; replace a1_k := a1_k.up l2_k; replace ff0_5 := ff0_5.up l2_k; replace hs := hs.up l2_k; replace o0_8 := o0_8.up l2_k; replace f0_6 := f0_6.up l2_k; replace fg0_2 := fg0_2.up l2_k))
  refine OPS_keepM [] m0_8 _ rfl fun h4 hl4 hm4 => ?_
  have hL : SL h4 2 IDC (.slice p0_8 live.length q0_8) live := o0_8.sl hl4 IDC_mono hm4 (by omega)
  clear o0_8 hm4
  (replace a2_k := a2_k.up hl4; replace a1_k := a1_k.up hl4; replace ff0_5 := ff0_5.up hl4; replace hs := hs.up hl4; replace f0_6 := f0_6.up hl4; replace fg0_2 := fg0_2.up hl4)
  (focus (refine OPS_keepM [] [_] _ rfl ?_; rintro h4_k l4_k k4_k; have a4_k := at_of_keep k4_k; clear k4_k; replace hL := hL.up l4_k; replace a2_k := a2_k.up l4_k; replace a1_k := a1_k.up l4_k; replace ff0_5 := ff0_5.up l4_k; replace hs := hs.up l4_k; replace f0_6 := f0_6.up l4_k; replace fg0_2 := fg0_2.up l4_k))
  (focus (refine OPS_keepM [] [_] _ rfl ?_; rintro h5_k l5_k k5_k; have a5_k := at_of_keep k5_k; clear k5_k; replace a4_k := a4_k.up l5_k; replace hL := hL.up l5_k; replace a2_k := a2_k.up l5_k; replace a1_k := a1_k.up l5_k; replace ff0_5 := ff0_5.up l5_k; replace hs := hs.up l5_k; replace f0_6 := f0_6.up l5_k; replace fg0_2 := fg0_2.up l5_k))
  refine S_c rfl rfl rfl (C_callF (concat_s (ls := [live, roots]) (slb_of_at a1_k (Flat.append (Flat.one rfl rfl ⟨_, _, rfl, hL⟩) (Flat.one rfl rfl ⟨_, _, rfl, f0_6⟩)) (by simp)) (by simp; omega)) rfl rfl ⟨_, _, rfl, rfl, rfl⟩ (cal rfl) ?_)
  rintro _ M _ hl5 ⟨rfl, pa, qa, rfl, hO⟩
  have hcat : [live, roots].flatten = live ++ roots := by simp
  rw [hcat] at hO ⊢
  have hal : (live ++ roots).length ≤ 2000000 := by rw [List.length_append]; omega
  have hs1 : safe1 vs g live roots = if (live ++ roots).any (fun id => !thereB g id) then 6 else safe2 vs g live := by rw [safe1]
  rw [hs1]
  generalize live ++ roots = all at *
  (focus (refine S_q rfl rfl rfl (Q_len rfl rfl rfl rfl rfl rfl) ?_; refine Sm rfl ?_; refine On ?_; refine WP_block ?_))
  refine WP_keepM [] M _ rfl fun h6 hl6 hm6 => ?_
  have hA : SL h6 2 IDC (.slice pa all.length qa) all := hO.sl hl6 IDC_mono hm6 (by omega)
  clear hO hm6 hs1 hcat hsafe
  (replace a5_k := a5_k.up hl6; replace a4_k := a4_k.up hl6; replace hL := hL.up hl6; replace a2_k := a2_k.up hl6; replace a1_k := a1_k.up hl6; replace ff0_5 := ff0_5.up hl6; replace hs := hs.up hl6; replace f0_6 := f0_6.up hl6; replace fg0_2 := fg0_2.up hl6)
  clear a1_k
  have hfn := fun id : ID => there_s (id := id) a5_k ⟨_, _, rfl, fg0_2⟩
  have hcal : callOk Tryz.prog 63 = true := cal rfl
  (refine WP_loopC (α := Nat) [44, 43, 8, 7, 5, 3, 2, 0] (fun (k : Nat) => all.length - k) (fun (k : Nat) => [(45, .int .i64 (k : Int))]) (fun hh (k : Nat) => hh = h6 ∧ k ≤ all.length ∧ (all.drop k).any (fun id => !thereB g id) = all.any (fun id => !thereB g id)) 0 ⟨_, _, rfl, ⟨_, _, rfl, ⟨_, _, rfl, ⟨_, _, rfl, ⟨_, _, rfl, ⟨_, _, rfl, ⟨_, _, rfl, ⟨_, _, rfl, rfl, rfl⟩, rfl⟩, rfl⟩, rfl⟩, rfl⟩, rfl⟩, rfl⟩, rfl⟩ (by repeat' first | exact trivial | refine ⟨rfl, ?_⟩) ?_ ?_)
  · exact ⟨rfl, Nat.zero_le _, rfl⟩
  rintro h7 k _ ⟨rfl, hk, ht⟩
  by_cases hlt : k < all.length
  · obtain ⟨⟨i1, i2⟩, ei⟩ := get_of hlt
    have hod := any_drop (p := fun id => !thereB g id) ei
    rw [ht] at hod
    (focus (refine Wr ?_; refine Sc rfl rfl rfl rfl rfl rfl rfl ?_; refine On ?_; refine WP_seq ?_; refine WP_cond rfl (fun c9_1 => ?_) (fun c9_1 => ?_) <;> (first | (simp [*] at c9_1; done) | (try simp at c9_1)); refine WP_skip ?_; refine then_n ?_; refine WP_seq ?_; refine WP_block ?_; refine Wr ?_; refine S_q rfl rfl rfl (Q_indexS ‹_› ‹_› rfl rfl rfl (elm rfl) rfl) ?_; refine S_load rfl rfl rfl rfl rfl ?_; refine L_elA ‹_› ‹_› (ty rfl) ?_; rintro _ _ _ rfl; refine S_c rfl rfl rfl (C_alloc rfl (zer rfl) ?_); intro b9_3; refine S_w0 rfl rfl (W_all rfl rfl rfl (ty rfl) u0 (by first | rfl | assumption) (by first | rfl | assumption) (by first | rfl | assumption | exact ones_sub ‹_› _ _) ?_); refine On ?_; refine Wr ?_; refine S_load rfl rfl rfl rfl rfl ?_; refine L_one (Rd.pers ‹_›) (ty rfl) ?_; refine S_load rfl rfl rfl rfl rfl ?_; refine L_agg (Rd.own m0) (ty rfl) (by first | rfl | assumption) ?_; refine S_c rfl rfl rfl (C_callCv (hfn _) rfl rfl rfl ⟨_, _, rfl, rfl, rfl⟩ hcal ?_); refine S_q rfl rfl rfl (Q_not rfl rfl) ?_; refine On ?_; refine WP_cond rfl (fun c9_4 => ?_) (fun c9_4 => ?_) <;> (first | (simp [*] at c9_4; done) | (try simp at c9_4)); (focus (refine Wr ?_; refine S_w0 rfl rfl (W_one rfl rfl rfl (ty rfl) u1 rfl rfl rfl ?_); refine On ?_; refine WP_ret ?_; refine block_r ?_; refine then_r ?_; refine roundF_r ?_; refine block_r ?_; refine then_r ?_)); rotate_left 1; (focus (refine WP_skip ?_; refine block_n ?_; refine then_n ?_; refine R_region ?_; refine S_q rfl rfl rfl (Q_add rfl rfl rfl (by omega)) ?_; refine Sm rfl ?_; refine OPS_nil ?_)); rotate_left 1))
    · refine nretP [_, _] (List.Sublist.refl _) (.inl rfl) rfl ⟨_, _, _, rfl, Loads_one (Rd.own m1) (ty rfl), rfl, rfl⟩ ?_
      simp only [resOf]; rw [hod, c9_4]; rfl
    · refine roundF_n (k + 1) (by omega) ⟨rfl, by omega, ?_⟩ (by repeat' first | exact sR _ | exact sA _ _ | exact sN _ | apply s2 | apply s1) (by repeat' first | exact trivial | refine ⟨rfl, ?_⟩)
      rw [hod, c9_4]; rfl
  have hge : k = all.length := by omega
  subst hge
  rw [List.drop_length] at ht
  rw [← ht, List.any_nil]
  clear hfn hcal hA ht
  have hs2 : safe2 vs g live = if live.any (fun id => badNode g ((findG g id).getD zeroN)) then 6 else safe3 vs live := by rw [safe2]
  rw [if_neg (by simp), hs2]
  clear hs2
  (focus (refine Wr ?_; refine Sc rfl rfl rfl rfl rfl rfl rfl ?_; refine On ?_; refine WP_seq ?_; refine WP_cond rfl (fun c10_1 => ?_) (fun c10_1 => ?_) <;> (first | (simp [*] at c10_1; done) | (try simp at c10_1)); refine WP_exit ?_; refine then_e ?_; refine roundF_e ?_; refine block_e ?_; refine then_n ?_; refine WP_seq ?_; refine Wr ?_; refine Sm rfl ?_; refine S_q rfl rfl rfl (Q_len rfl rfl rfl rfl rfl rfl) ?_; refine Sm rfl ?_; refine On ?_; refine WP_block ?_))
  (refine WP_loopC (α := Nat) [55, 54, 8, 7, 5, 3, 2, 0] (fun (k : Nat) => live.length - k) (fun (k : Nat) => [(56, .int .i64 (k : Int))]) (fun hh (k : Nat) => le h7 hh ∧ k ≤ live.length ∧ (live.drop k).any (fun id => badNode g ((findG g id).getD zeroN)) = live.any (fun id => badNode g ((findG g id).getD zeroN))) 0 ⟨_, _, rfl, ⟨_, _, rfl, ⟨_, _, rfl, ⟨_, _, rfl, ⟨_, _, rfl, ⟨_, _, rfl, ⟨_, _, rfl, ⟨_, _, rfl, rfl, rfl⟩, rfl⟩, rfl⟩, rfl⟩, rfl⟩, rfl⟩, rfl⟩, rfl⟩ (by repeat' first | exact trivial | refine ⟨rfl, ?_⟩) ?_ ?_)
  · exact ⟨le_refl _, Nat.zero_le _, rfl⟩
  rintro h8 k _ ⟨hl7, hk, ht⟩
  (replace a5_k := a5_k.up hl7; replace a4_k := a4_k.up hl7; replace hL := hL.up hl7; replace a2_k := a2_k.up hl7; replace ff0_5 := ff0_5.up hl7; replace hs := hs.up hl7; replace f0_6 := f0_6.up hl7; replace fg0_2 := fg0_2.up hl7)
  by_cases hlt : k < live.length
  · obtain ⟨⟨i1, i2⟩, ei⟩ := get_of hlt
    have hod := any_drop (p := fun id => badNode g ((findG g id).getD zeroN)) ei
    rw [ht] at hod
    (focus (refine Wr ?_; refine Sc rfl rfl rfl rfl rfl rfl rfl ?_; refine On ?_; refine WP_seq ?_; refine WP_cond rfl (fun c13_1 => ?_) (fun c13_1 => ?_) <;> (first | (simp [*] at c13_1; done) | (try simp at c13_1)); refine WP_skip ?_; refine then_n ?_; refine WP_seq ?_; refine WP_block ?_; refine Wr ?_; refine S_q rfl rfl rfl (Q_indexS ‹_› ‹_› rfl rfl rfl (elm rfl) rfl) ?_; refine S_load rfl rfl rfl rfl rfl ?_; refine L_elA ‹_› ‹_› (ty rfl) ?_; rintro _ _ _ rfl; refine S_c rfl rfl rfl (C_alloc rfl (zer rfl) ?_); intro b13_3; refine S_w0 rfl rfl (W_all rfl rfl rfl (ty rfl) u0 (by first | rfl | assumption) (by first | rfl | assumption) (by first | rfl | assumption | exact ones_sub ‹_› _ _) ?_); refine On ?_; refine Wr ?_; refine S_load rfl rfl rfl rfl rfl ?_; refine L_agg (Rd.pers ‹_›) (ty rfl) (by first | rfl | assumption) ?_; refine S_load rfl rfl rfl rfl rfl ?_; refine L_agg (Rd.own m0) (ty rfl) (by first | rfl | assumption) ?_; refine S_c rfl rfl rfl (C_call (find_s ⟨_, _, rfl, by assumption⟩) rfl rfl ⟨_, _, rfl, ⟨_, _, rfl, rfl, rfl⟩, rfl⟩ (cal rfl) ?_); rintro h13_4 _ l13_4 ⟨vf13_4, rfl, pn13_4, qn13_4, rfl, fn13_4⟩; replace a5_k := a5_k.up l13_4; replace a4_k := a4_k.up l13_4; replace hL := hL.up l13_4; replace a2_k := a2_k.up l13_4; replace ff0_5 := ff0_5.up l13_4; replace hs := hs.up l13_4; replace f0_6 := f0_6.up l13_4; replace fg0_2 := fg0_2.up l13_4; refine Sm rfl ?_; refine S_q rfl rfl rfl (Q_extract rfl rfl rfl) ?_; refine S_q rfl rfl rfl (Q_extract rfl rfl rfl) ?_; refine S_c rfl rfl rfl (C_alloc rfl (zer rfl) ?_); intro b13_5; refine S_w0 rfl rfl (W_all rfl rfl rfl (ty rfl) u0 (by first | rfl | assumption) (by first | rfl | assumption) (by first | rfl | assumption | exact ones_sub ‹_› _ _) ?_); refine Sm rfl ?_; refine On ?_; refine Wr ?_; refine S_q rfl rfl rfl (Q_makeFunc rfl rfl ⟨_, _, rfl, rfl, rfl⟩) ?_; refine Sm rfl ?_; refine On ?_; refine Wr ?_; refine Sf rfl rfl rfl rfl rfl (fld rfl rfl) ?_; refine S_load rfl rfl rfl rfl rfl ?_; refine L_fld (Rd.own m0) (ty rfl) rfl ?_; refine Sc rfl rfl rfl rfl rfl rfl rfl ?_; refine Sm rfl ?_; refine S_gsplit rfl rfl rfl rfl (fun c13_6 => ?_) (fun c13_6 => ?_) <;> (first | (simp [*] at c13_6; done) | (try simp at c13_6)); (focus (refine S_gq rfl rfl rfl rfl rfl rfl (Q_fieldAddr rfl rfl (fld rfl rfl)) ?_; refine S_gload rfl rfl rfl rfl rfl rfl rfl rfl ?_; refine L_fld (Rd.own m0) (ty rfl) rfl ?_; refine S_gq rfl rfl rfl rfl rfl rfl (Q_move rfl rfl) ?_)); rotate_left 1; (focus (refine Sn rfl ?_; refine Sn rfl ?_; refine Sn rfl ?_; refine Sn rfl ?_; refine S_q rfl rfl rfl (Q_pick_f rfl rfl rfl) ?_; refine On ?_; refine cond_f rfl ?_; refine WP_skip ?_; refine block_n ?_; refine then_n ?_; refine R_region ?_; refine S_q rfl rfl rfl (Q_add rfl rfl rfl (by omega)) ?_; refine Sm rfl ?_; refine OPS_nil ?_)); rotate_left 1))
    · refine S_gc rfl rfl rfl rfl rfl rfl (C_callv (hasVal_s (cap := [ptr b0_9 0]) (p := oddB g) fn13_4 (cal rfl) (fun v vs _ _ e => by cases e; exact odd_s a2_k a5_k ⟨_, _, rfl, fg0_2⟩)) rfl rfl ⟨_, _, rfl, ⟨_, _, rfl, rfl, rfl⟩, rfl⟩ (cal rfl) ?_)
      rw [badNode_any c13_6] at hod
      generalize ((findG g (i1, i2)).getD zeroN).fields.any (oddB g) = bb at *
      (focus (refine S_q rfl rfl rfl (Q_pick_t rfl rfl rfl) ?_; refine On ?_; refine WP_cond rfl (fun c14_1 => ?_) (fun c14_1 => ?_) <;> (first | (simp [*] at c14_1; done) | (try simp at c14_1)); (focus (refine Wr ?_; refine S_w0 rfl rfl (W_one rfl rfl rfl (ty rfl) u2 rfl rfl rfl ?_); refine On ?_; refine WP_ret ?_; refine block_r ?_; refine then_r ?_; refine roundF_r ?_; refine block_r ?_; refine then_r ?_)); rotate_left 1; (focus (refine WP_skip ?_; refine block_n ?_; refine then_n ?_; refine R_region ?_; refine S_q rfl rfl rfl (Q_add rfl rfl rfl (by omega)) ?_; refine Sm rfl ?_; refine OPS_nil ?_)); rotate_left 1))
      · refine nretP [_, _, _] (List.Sublist.refl _) (.inl rfl) rfl ⟨_, _, _, rfl, Loads_one (Rd.own m2) (ty rfl), rfl, rfl⟩ ?_
        simp only [resOf]; rw [hod, c14_1]; rfl
      · refine roundF_n (k + 1) (by omega) ⟨le_trans hl7 l13_4, by omega, ?_⟩ (by repeat' first | exact sR _ | exact sA _ _ | exact sN _ | apply s2 | apply s1) (by repeat' first | exact trivial | refine ⟨rfl, ?_⟩)
        rw [hod, c14_1]; rfl
    · refine roundF_n (k + 1) (by omega) ⟨le_trans hl7 l13_4, by omega, ?_⟩ (by repeat' first | exact sR _ | exact sA _ _ | exact sN _ | apply s2 | apply s1) (by repeat' first | exact trivial | refine ⟨rfl, ?_⟩)
      rw [hod, badNode_weak c13_6]; rfl
  have hge : k = live.length := by omega
  subst hge
  rw [List.drop_length] at ht
  rw [← ht, List.any_nil]
  clear ht
  have hs3 : safe3 vs live = if (flightsOf vs).any (lostF vs) then 6 else safe4 vs live := by rw [safe3]
  rw [if_neg (by simp), hs3]
  clear hs3
  (focus (refine Wr ?_; refine Sc rfl rfl rfl rfl rfl rfl rfl ?_; refine On ?_; refine WP_seq ?_; refine WP_cond rfl (fun c15_1 => ?_) (fun c15_1 => ?_) <;> (first | (simp [*] at c15_1; done) | (try simp at c15_1)); refine WP_exit ?_; refine then_e ?_; refine roundF_e ?_; refine block_e ?_; refine then_n ?_; refine WP_seq ?_; refine Wr ?_; refine S_load rfl rfl rfl rfl rfl ?_; refine L_agg (Rd.pers ‹_›) (ty rfl) (by first | rfl | assumption) ?_; refine S_c rfl rfl rfl (C_call (flights_s ‹_›) rfl rfl ⟨_, _, rfl, rfl, rfl⟩ (cal rfl) ?_); rintro h15_2 _ l15_2 ⟨bi15_2, rfl, it15_2⟩; replace a5_k := a5_k.up l15_2; replace a4_k := a4_k.up l15_2; replace hL := hL.up l15_2; replace a2_k := a2_k.up l15_2; replace ff0_5 := ff0_5.up l15_2; replace hs := hs.up l15_2; replace f0_6 := f0_6.up l15_2; replace fg0_2 := fg0_2.up l15_2; refine On ?_; refine WP_block ?_))
  refine WP_rangeS [] [] (fun _ : Unit => [(b0_1, cells [.int .i64 0] 28)]) (fun pre hh _ => le h15_2 hh ∧ pre.any (lostF vs) = false)
    (fun e hh L => e = .ret ∧ List.Sublist [(b0_1, cells [.int .i64 6] 28)] L ∧ (flightsOf vs).any (lostF vs) = true) () it15_2 rfl Tryz.func77 (by decide) rfl (by rintro _ _ _ ⟨_, _, rfl, _⟩; rfl) rfl rfl ⟨le_refl _, rfl⟩ ?_ ?_ ?_
  · rintro l pre ⟨v, x⟩ _ h2 _ hl1 ⟨hl2, hpre⟩ hp ⟨us, ws, rfl, hu1, hu2, hu3, hw1, hw2, hw3⟩
    simp only at hu3 hw3
    have hsn : (pre ++ [(v, x)]).any (lostF vs) = (pre.any (lostF vs) || lostF vs (v, x)) := by simp
    have hin : (v, x) ∈ flightsOf vs := hp.subset (by simp)
    (replace it15_2 := it15_2.up hl1; replace a5_k := a5_k.up hl1; replace a4_k := a4_k.up hl1; replace hL := hL.up hl1; replace a2_k := a2_k.up hl1; replace ff0_5 := ff0_5.up hl1; replace hs := hs.up hl1; replace f0_6 := f0_6.up hl1; replace fg0_2 := fg0_2.up hl1)
    obtain ⟨hi, xa, po, qo, qs, qt, pc, qc, pn, qn, pm, qm, xw, xv, pf, qf, pr, qr, xe, xf, rfl, -⟩ := hu3
    obtain ⟨ya, yb, yc, yd, ye, pa, qa, pg, qg, ph, qh, yw, y1, y2, y3, y4, y5, y6, y7, y8, y9, y10, y11, y12, y13, y14, y15, rfl, ha, hfs, hm⟩ := hw3
    dsimp only [parFr]
    (focus (refine Wr ?_; refine S_c rfl rfl rfl (C_alloc rfl (zer rfl) ?_); intro b17_1; refine S_w0 rfl rfl (W_all rfl rfl rfl (ty rfl) u0 (by first | rfl | assumption) (by first | rfl | assumption) (by first | rfl | assumption | exact ones_sub ‹_› _ _) ?_); refine On ?_; refine R_region ?_; refine S_c rfl rfl rfl (C_alloc rfl (zer rfl) ?_); intro b17_2; refine S_w0 rfl rfl (W_all rfl rfl rfl (ty rfl) u0 (by first | rfl | assumption) (by first | rfl | assumption) (by first | rfl | assumption | exact ones_sub ‹_› _ _) ?_); refine On ?_))
    refine ⟨rfl, ?_⟩
    (focus (refine WP_block ?_; refine Wr ?_; refine Sf rfl rfl rfl rfl rfl (fld rfl rfl) ?_; refine Sf rfl rfl rfl rfl rfl (fld rfl rfl) ?_; refine S_load rfl rfl rfl rfl rfl ?_; refine L_fld2 (Rd.own m0) ?_; refine LV_1 (ty rfl) rfl ?_; refine Sc rfl rfl rfl rfl rfl rfl rfl ?_; refine Sm rfl ?_; refine S_gsplit rfl rfl rfl rfl (fun c18_1 => ?_) (fun c18_1 => ?_) <;> (first | (simp [*] at c18_1; done) | (try simp at c18_1)); (focus (refine S_gload rfl rfl rfl rfl rfl rfl rfl rfl ?_; refine L_agg (Rd.pers ‹_›) (ty rfl) (by first | rfl | assumption) ?_; refine S_gq rfl rfl rfl rfl rfl rfl (Q_fieldAddr rfl rfl (fld rfl rfl)) ?_; refine S_gload rfl rfl rfl rfl rfl rfl rfl rfl ?_; refine L_fld (Rd.own m1) (ty rfl) rfl ?_; refine S_gq rfl rfl rfl rfl rfl rfl (Q_fieldAddr rfl rfl (fld rfl rfl)) ?_; refine S_gload rfl rfl rfl rfl rfl rfl rfl rfl ?_; refine L_fld (Rd.own m0) (ty rfl) rfl ?_; refine S_gq rfl rfl rfl rfl rfl rfl (Q_fieldAddr rfl rfl (fld rfl rfl)) ?_; refine S_gq rfl rfl rfl rfl rfl rfl (Q_fieldAddr rfl rfl (fld rfl rfl)) ?_; refine S_gload rfl rfl rfl rfl rfl rfl rfl rfl ?_; refine L_fld2 (Rd.own m0) ?_; refine LV_1 (ty rfl) rfl ?_; refine S_gc rfl rfl rfl rfl rfl rfl (C_callv (numbered_s ‹_›) rfl rfl ⟨_, _, rfl, ⟨_, _, rfl, ⟨_, _, rfl, ⟨_, _, rfl, rfl, rfl⟩, rfl⟩, rfl⟩, rfl⟩ (cal rfl) ?_); refine S_gq rfl rfl rfl rfl rfl rfl (Q_build rfl (by decide +kernel) (zer rfl) rfl rfl) ?_; refine S_gq rfl rfl rfl rfl rfl rfl (Q_eqI eqID rfl rfl rfl rfl rfl) ?_; refine S_q rfl rfl rfl (Q_pick_t rfl rfl rfl) ?_; refine On ?_; refine WP_cond rfl (fun c18_2 => ?_) (fun c18_2 => ?_) <;> (first | (simp [*] at c18_2; done) | (try simp at c18_2)); (focus (refine Wr ?_; refine S_w0 rfl rfl (W_one rfl rfl rfl (ty rfl) u2 rfl rfl rfl ?_); refine On ?_; refine WP_ret ?_; refine block_r ?_)); rotate_left 1; (focus (refine WP_skip ?_; refine block_n ?_)); rotate_left 1)); rotate_left 2; (focus (refine Sn rfl ?_; refine Sn rfl ?_; refine Sn rfl ?_; refine Sn rfl ?_; refine Sn rfl ?_; refine Sn rfl ?_; refine Sn rfl ?_; refine Sn rfl ?_; refine Sn rfl ?_; refine Sn rfl ?_; refine Sn rfl ?_; refine S_q rfl rfl rfl (Q_pick_f rfl rfl rfl) ?_; refine On ?_; refine cond_f rfl ?_; refine WP_skip ?_; refine block_n ?_)); rotate_left 1))
    · refine bodyS_r ⟨rfl, (by repeat' first | exact sR _ | exact sA _ _ | exact sN _ | apply s2 | apply s1), List.any_eq_true.2 ⟨_, hin, ?_⟩⟩
      rw [lostF_zero c18_1]
      exact decide_eq_true (Prod.ext c18_2.1 c18_2.2)
    · refine bodyS_n () ⟨hl2, ?_⟩ (by repeat' first | exact sR _ | exact sA _ _ | exact sN _ | apply s2 | apply s1)
      rw [hsn, hpre, lostF_zero c18_1]
      exact decide_eq_false fun e => c18_2 (congrArg Prod.fst e) (congrArg Prod.snd e)
    · refine bodyS_n () ⟨hl2, ?_⟩ (by repeat' first | exact sR _ | exact sA _ _ | exact sN _ | apply s2 | apply s1)
      rw [hsn, hpre, lostF_other c18_1]; rfl
  · rintro d h2 _ hl1 ⟨hl2, hpre⟩
    (replace it15_2 := it15_2.up hl1; replace a5_k := a5_k.up hl1; replace a4_k := a4_k.up hl1; replace hL := hL.up hl1; replace a2_k := a2_k.up hl1; replace ff0_5 := ff0_5.up hl1; replace hs := hs.up hl1; replace f0_6 := f0_6.up hl1; replace fg0_2 := fg0_2.up hl1)
    rw [if_neg (by rw [hpre]; simp)]
    have hs4 : safe4 vs live = if vs.any (fun v => v.stubs.any (badStub vs live v)) then 11 else 0 := by rw [safe4]
    rw [hs4]
    clear hs4
    (focus (refine block_n ?_; refine then_n ?_; refine WP_seq ?_; refine Wr ?_; refine Sm rfl ?_; refine S_q rfl rfl rfl (Q_len rfl rfl rfl rfl rfl rfl) ?_; refine Sm rfl ?_; refine On ?_; refine WP_block ?_))
    (refine WP_loopC (α := Nat) [99, 98, 7, 2, 0] (fun (k : Nat) => vs.length - k) (fun (k : Nat) => [(100, .int .i64 (k : Int))]) (fun hh (k : Nat) => le h2 hh ∧ k ≤ vs.length ∧ (vs.drop k).any (fun v => v.stubs.any (badStub vs live v)) = vs.any (fun v => v.stubs.any (badStub vs live v))) 0 ⟨_, _, rfl, ⟨_, _, rfl, ⟨_, _, rfl, ⟨_, _, rfl, ⟨_, _, rfl, rfl, rfl⟩, rfl⟩, rfl⟩, rfl⟩, rfl⟩ (by repeat' first | exact trivial | refine ⟨rfl, ?_⟩) ?_ ?_)
    · exact ⟨le_refl _, Nat.zero_le _, rfl⟩
    rintro h3 k _ ⟨hl3, hk, ht⟩
    (replace it15_2 := it15_2.up hl3; replace a5_k := a5_k.up hl3; replace a4_k := a4_k.up hl3; replace hL := hL.up hl3; replace a2_k := a2_k.up hl3; replace ff0_5 := ff0_5.up hl3; replace hs := hs.up hl3; replace f0_6 := f0_6.up hl3; replace fg0_2 := fg0_2.up hl3)
    by_cases hlt : k < vs.length
    · obtain ⟨v, ev⟩ := get_of hlt
      have hod := any_drop (p := fun v => v.stubs.any (badStub vs live v)) ev
      rw [ht] at hod
      have hst := sm.stubs v (List.mem_of_getElem? ev)
      (focus (refine Wr ?_; refine Sc rfl rfl rfl rfl rfl rfl rfl ?_; refine On ?_; refine WP_seq ?_; refine WP_cond rfl (fun c23_1 => ?_) (fun c23_1 => ?_) <;> (first | (simp [*] at c23_1; done) | (try simp at c23_1)); refine WP_skip ?_; refine then_n ?_; refine WP_seq ?_; refine WP_block ?_; refine Wr ?_; refine S_q rfl rfl rfl (Q_indexS ‹_› ‹_› rfl rfl rfl (elm rfl) rfl) ?_; refine S_load rfl rfl rfl rfl rfl ?_; refine L_elA ‹_› ‹_› (ty rfl) ?_; rintro _ _ _ ⟨xi23_2, xa23_2, po23_2, qo23_2, ps23_2, qs23_2, pc23_2, qc23_2, pn23_2, qn23_2, pm23_2, qm23_2, xw23_2, xv23_2, pf23_2, qf23_2, pr23_2, qr23_2, xe23_2, xf23_2, rfl, vo23_2, vs23_2, vc23_2, vn23_2, vm23_2, vf23_2, vr23_2⟩; refine S_c rfl rfl rfl (C_alloc rfl (zer rfl) ?_); intro b23_3; refine S_w0 rfl rfl (W_all rfl rfl rfl (ty rfl) u0 (by first | rfl | assumption) (by first | rfl | assumption) (by first | rfl | assumption | exact ones_sub ‹_› _ _) ?_); refine On ?_; refine Wr ?_; refine Sf rfl rfl rfl rfl rfl (fld rfl rfl) ?_; refine S_load rfl rfl rfl rfl rfl ?_; refine L_fld (Rd.own m0) (ty rfl) rfl ?_; refine S_q rfl rfl rfl (Q_len rfl rfl rfl rfl rfl rfl) ?_; refine Sm rfl ?_; refine On ?_; refine WP_block ?_))
      (refine WP_loopC (α := Nat) [106, 105, 19, 100, 99, 98, 7, 2, 0] (fun (j : Nat) => v.stubs.length - j) (fun (j : Nat) => [(107, .int .i64 (j : Int))]) (fun hh (j : Nat) => le h3 hh ∧ j ≤ v.stubs.length ∧ (v.stubs.drop j).any (badStub vs live v) = v.stubs.any (badStub vs live v)) 0 ⟨_, _, rfl, ⟨_, _, rfl, ⟨_, _, rfl, ⟨_, _, rfl, ⟨_, _, rfl, ⟨_, _, rfl, ⟨_, _, rfl, ⟨_, _, rfl, ⟨_, _, rfl, rfl, rfl⟩, rfl⟩, rfl⟩, rfl⟩, rfl⟩, rfl⟩, rfl⟩, rfl⟩, rfl⟩ (by repeat' first | exact trivial | refine ⟨rfl, ?_⟩) ?_ ?_)
      · exact ⟨le_refl _, Nat.zero_le _, rfl⟩
      rintro h4 j _ ⟨hl4, hj, ht2⟩
      (replace it15_2 := it15_2.up hl4; replace a5_k := a5_k.up hl4; replace a4_k := a4_k.up hl4; replace hL := hL.up hl4; replace a2_k := a2_k.up hl4; replace ff0_5 := ff0_5.up hl4; replace hs := hs.up hl4; replace f0_6 := f0_6.up hl4; replace fg0_2 := fg0_2.up hl4; replace vo23_2 := vo23_2.up hl4; replace vs23_2 := vs23_2.up hl4; replace vc23_2 := vc23_2.up hl4; replace vn23_2 := vn23_2.up hl4; replace vm23_2 := vm23_2.up hl4; replace vf23_2 := vf23_2.up hl4; replace vr23_2 := vr23_2.up hl4)
      by_cases hlt2 : j < v.stubs.length
      · obtain ⟨x, ex⟩ := get_of hlt2
        have hod2 := any_drop (p := badStub vs live v) ex
        rw [ht2] at hod2
        have hbd := badStub_def vs live v x
        (focus (refine Wr ?_; refine Sc rfl rfl rfl rfl rfl rfl rfl ?_; refine On ?_; refine WP_seq ?_; refine WP_cond rfl (fun c26_1 => ?_) (fun c26_1 => ?_) <;> (first | (simp [*] at c26_1; done) | (try simp at c26_1)); refine WP_skip ?_; refine then_n ?_; refine WP_seq ?_; refine WP_block ?_; refine Wr ?_; refine S_q rfl rfl rfl (Q_indexS ‹_› ‹_› rfl rfl rfl (elm rfl) rfl) ?_; refine S_load rfl rfl rfl rfl rfl ?_; refine L_elA ‹_› ‹_› (ty rfl) ?_; rintro _ _ _ ⟨xa26_2, xb26_2, xc26_2, xd26_2, xe26_2, xf26_2, rfl⟩; refine S_c rfl rfl rfl (C_alloc rfl (zer rfl) ?_); intro b26_3; refine S_w0 rfl rfl (W_all rfl rfl rfl (ty rfl) u0 (by first | rfl | assumption) (by first | rfl | assumption) (by first | rfl | assumption | exact ones_sub ‹_› _ _) ?_); refine On ?_; refine WP_seq ?_; refine Wr ?_; refine Sf rfl rfl rfl rfl rfl (fld rfl rfl) ?_; refine S_load rfl rfl rfl rfl rfl ?_; refine L_fld (Rd.own m0) (ty rfl) rfl ?_; refine Sm rfl ?_; refine S_gsplit rfl rfl rfl rfl (fun c26_4 => ?_) (fun c26_4 => ?_) <;> (first | (simp [*] at c26_4; done) | (try simp at c26_4)); (focus (refine Sn rfl ?_; refine Sn rfl ?_; refine S_q rfl rfl rfl (Q_pick_t rfl rfl rfl) ?_; refine Sm rfl ?_; refine Sn rfl ?_; refine Sn rfl ?_; refine Sn rfl ?_; refine Sn rfl ?_; refine Sn rfl ?_; refine S_q rfl rfl rfl (Q_pick_t rfl rfl rfl) ?_; refine On ?_; refine cond_t rfl ?_; refine WP_exit ?_; refine then_e ?_; refine block_e ?_; refine then_n ?_; refine R_region ?_; refine S_q rfl rfl rfl (Q_add rfl rfl rfl (by omega)) ?_; refine Sm rfl ?_; refine OPS_nil ?_)); rotate_left 1; (focus (refine S_gq rfl rfl rfl rfl rfl rfl (Q_fieldAddr rfl rfl (fld rfl rfl)) ?_; refine S_gload rfl rfl rfl rfl rfl rfl rfl rfl ?_; refine L_fld (Rd.own m0) (ty rfl) rfl ?_; refine S_q rfl rfl rfl (Q_pick_f rfl rfl rfl) ?_; refine Sm rfl ?_; refine S_gsplit rfl rfl rfl rfl (fun c26_5 => ?_) (fun c26_5 => ?_) <;> (first | (simp [*] at c26_5; done) | (try simp at c26_5)); (focus (refine Sn rfl ?_; refine Sn rfl ?_; refine Sn rfl ?_; refine Sn rfl ?_; refine Sn rfl ?_; refine S_q rfl rfl rfl (Q_pick_t rfl rfl rfl) ?_; refine On ?_; refine cond_t rfl ?_; refine WP_exit ?_; refine then_e ?_; refine block_e ?_; refine then_n ?_; refine R_region ?_; refine S_q rfl rfl rfl (Q_add rfl rfl rfl (by omega)) ?_; refine Sm rfl ?_; refine OPS_nil ?_)); rotate_left 1; (focus (refine S_gq rfl rfl rfl rfl rfl rfl (Q_move rfl rfl) ?_; refine S_gq rfl rfl rfl rfl rfl rfl (Q_fieldAddr rfl rfl (fld rfl rfl)) ?_; refine S_gload rfl rfl rfl rfl rfl rfl rfl rfl ?_; refine L_sub (Rd.own m0) (ty rfl) rfl ?_; refine S_gc rfl rfl rfl rfl rfl rfl (C_callv (has_s (x := (_, _)) ‹_›) rfl rfl ⟨_, _, rfl, ⟨_, _, rfl, rfl, rfl⟩, rfl⟩ (cal rfl) ?_); refine S_gq rfl rfl rfl rfl rfl rfl (Q_not rfl rfl) ?_; refine S_q rfl rfl rfl (Q_pick_f rfl rfl rfl) ?_; refine On ?_; refine WP_cond rfl (fun c26_6 => ?_) (fun c26_6 => ?_) <;> (first | (simp [*] at c26_6; done) | (try simp at c26_6)); (focus (refine WP_exit ?_; refine then_e ?_; refine block_e ?_; refine then_n ?_; refine R_region ?_; refine S_q rfl rfl rfl (Q_add rfl rfl rfl (by omega)) ?_; refine Sm rfl ?_; refine OPS_nil ?_)); rotate_left 1; (focus (refine WP_skip ?_; refine then_n ?_; refine Wr ?_; refine Sm rfl ?_; refine Sf rfl rfl rfl rfl rfl (fld rfl rfl) ?_; refine S_load rfl rfl rfl rfl rfl ?_; refine L_fld (Rd.own m1) (ty rfl) rfl ?_; refine Sf rfl rfl rfl rfl rfl (fld rfl rfl) ?_; refine S_load rfl rfl rfl rfl rfl ?_; refine L_sub (Rd.own m0) (ty rfl) rfl ?_; refine S_c rfl rfl rfl (C_call (follow_s ‹_› (by omega)) rfl rfl ⟨_, _, rfl, ⟨_, _, rfl, ⟨_, _, rfl, rfl, rfl⟩, rfl⟩, rfl⟩ (cal rfl) ?_); rintro h26_7 _ l26_7 ⟨p26_7, q26_7, rfl, f26_7⟩; replace it15_2 := it15_2.up l26_7; replace a5_k := a5_k.up l26_7; replace a4_k := a4_k.up l26_7; replace hL := hL.up l26_7; replace a2_k := a2_k.up l26_7; replace ff0_5 := ff0_5.up l26_7; replace hs := hs.up l26_7; replace f0_6 := f0_6.up l26_7; replace fg0_2 := fg0_2.up l26_7; replace vo23_2 := vo23_2.up l26_7; replace vs23_2 := vs23_2.up l26_7; replace vc23_2 := vc23_2.up l26_7; replace vn23_2 := vn23_2.up l26_7; replace vm23_2 := vm23_2.up l26_7; replace vf23_2 := vf23_2.up l26_7; replace vr23_2 := vr23_2.up l26_7; refine Sm rfl ?_; refine S_q rfl rfl rfl (Q_extract rfl rfl rfl) ?_; refine S_q rfl rfl rfl (Q_extract rfl rfl rfl) ?_; refine Sm rfl ?_; refine Sm rfl ?_; refine On ?_; refine Wr ?_; refine Sm rfl ?_; refine Sc rfl rfl rfl rfl rfl rfl rfl ?_; refine On ?_; refine WP_cond rfl (fun c26_8 => ?_) (fun c26_8 => ?_) <;> (first | (simp [*] at c26_8; done) | (try simp at c26_8)); (focus (refine Wr ?_; refine S_w0 rfl rfl (W_one rfl rfl rfl (ty rfl) u2 rfl rfl rfl ?_); refine On ?_; refine WP_ret ?_; refine block_r ?_; refine then_r ?_; refine roundF_r ?_; refine block_r ?_; refine block_r ?_; refine then_r ?_; refine roundF_r ?_; refine block_r ?_; refine then_r ?_)); rotate_left 1; (focus (refine WP_skip ?_; refine block_n ?_; refine then_n ?_; refine R_region ?_; refine S_q rfl rfl rfl (Q_add rfl rfl rfl (by omega)) ?_; refine Sm rfl ?_; refine OPS_nil ?_)); rotate_left 1)); rotate_left 2)); rotate_left 3)); rotate_left 4))
        · rw [c26_4] at hbd
          refine roundF_n (j + 1) (by omega) ⟨hl4, by omega, ?_⟩ (by repeat' first | exact sR _ | exact sA _ _ | exact sN _ | apply s2 | apply s1) (by repeat' first | exact trivial | refine ⟨rfl, ?_⟩)
          rw [hod2, hbd]; rfl
        · rw [c26_4, c26_5] at hbd
          refine roundF_n (j + 1) (by omega) ⟨hl4, by omega, ?_⟩ (by repeat' first | exact sR _ | exact sA _ _ | exact sN _ | apply s2 | apply s1) (by repeat' first | exact trivial | refine ⟨rfl, ?_⟩)
          rw [hod2, hbd]; rfl
        · rw [c26_4, c26_5, decide_eq_false (p := x.id ∈ live) c26_6] at hbd
          refine roundF_n (j + 1) (by omega) ⟨hl4, by omega, ?_⟩ (by repeat' first | exact sR _ | exact sA _ _ | exact sN _ | apply s2 | apply s1) (by repeat' first | exact trivial | refine ⟨rfl, ?_⟩)
          rw [hod2, hbd]; rfl
        · rw [c26_4, c26_5, decide_eq_true (p := x.id ∈ live) c26_6, decide_eq_true (p := (followOf vs v.machine x.id).2 ≠ 0) c26_8] at hbd
          refine nretP [_, _, _] (List.Sublist.refl _) (.inl rfl) rfl ⟨_, _, _, rfl, Loads_one (Rd.own m2) (ty rfl), rfl, rfl⟩ ?_
          simp only [resOf]; rw [hod, hod2, hbd]; rfl
        · rw [c26_4, c26_5, decide_eq_true (p := x.id ∈ live) c26_6, decide_eq_false (p := (followOf vs v.machine x.id).2 ≠ 0) (fun e => e c26_8)] at hbd
          refine roundF_n (j + 1) (by omega) ⟨le_trans hl4 l26_7, by omega, ?_⟩ (by repeat' first | exact sR _ | exact sA _ _ | exact sN _ | apply s2 | apply s1) (by repeat' first | exact trivial | refine ⟨rfl, ?_⟩)
          rw [hod2, hbd]; rfl
      have hge : j = v.stubs.length := by omega
      subst hge
      rw [List.drop_length] at ht2
      (focus (refine Wr ?_; refine Sc rfl rfl rfl rfl rfl rfl rfl ?_; refine On ?_; refine WP_seq ?_; refine WP_cond rfl (fun c27_1 => ?_) (fun c27_1 => ?_) <;> (first | (simp [*] at c27_1; done) | (try simp at c27_1)); refine WP_exit ?_; refine then_e ?_; refine roundF_e ?_; refine block_e ?_; refine block_n ?_; refine then_n ?_; refine R_region ?_; refine S_q rfl rfl rfl (Q_add rfl rfl rfl (by omega)) ?_; refine Sm rfl ?_; refine OPS_nil ?_))
      refine roundF_n (k + 1) (by omega) ⟨le_trans hl3 hl4, by omega, ?_⟩ (by repeat' first | exact sR _ | exact sA _ _ | exact sN _ | apply s2 | apply s1) (by repeat' first | exact trivial | refine ⟨rfl, ?_⟩)
      rw [hod, ← ht2]; rfl
    have hge : k = vs.length := by omega
    subst hge
    rw [List.drop_length] at ht
    rw [← ht, List.any_nil, if_neg (by simp)]
    (focus (refine Wr ?_; refine Sc rfl rfl rfl rfl rfl rfl rfl ?_; refine On ?_; refine WP_seq ?_; refine WP_cond rfl (fun c28_1 => ?_) (fun c28_1 => ?_) <;> (first | (simp [*] at c28_1; done) | (try simp at c28_1)); refine WP_exit ?_; refine then_e ?_; refine roundF_e ?_; refine block_e ?_; refine then_n ?_; refine Wr ?_; refine S_w0 rfl rfl (W_one rfl rfl rfl (ty rfl) u0 rfl rfl rfl ?_); refine On ?_; refine WP_ret ?_))
    refine nretP [_] (List.Sublist.refl _) (.inl rfl) rfl ⟨_, _, _, rfl, Loads_one (Rd.own m0) (ty rfl), rfl, rfl⟩ ?_
    rfl
  · rintro d e h2 L2 hl1 ⟨rfl, hsub, hany⟩ _
    refine block_r (then_r ?_)
    refine nretP [(b0_1, cells [.int .i64 6] 28)] (hsub.append (List.Sublist.refl _)) (.inl rfl) rfl ⟨_, _, _, rfl, Loads_one (Rd.own m0) (ty rfl), rfl, rfl⟩ ?_
    simp only [resOf]; rw [if_pos hany]
end Go.Proofs.YtfhoecgiahpddaaGreat
/-
  PLAIN: the order of views with different numbers does not matter.
-/
set_option linter.all false
namespace Go.Proofs.YtfhoecgiahpddaaGreat
open Go.Mesh Go.RowKit
set_option maxRecDepth 100000
set_option linter.unusedVariables false
set_option maxHeartbeats 4000000
attribute [local irreducible] WP OPS ANY ANYo LG LV FSpec PSpec QOP OPc OPw thenQ blockQ roundQ roundF retQ retM Rd At SLB OS cmpI orI cmpID namedB valB nodeB kindB validG valAux idxI findG zeroV viewOf vwAt idxOf recv flyB scionOf moveOf numberedOf idOf valueOf mget mput localB carriedB stubOf followF followOf flOf flightsOf flPre setL minusL compactL putI mergeN insN insAll unionR NMap Coll retN bodyS GMap Dfs refsV refsOf reachL movedOf movedG graphParts graphR isMove flightIDs mailIDs viewIDs rawRoots rootsR reachR deadN viewObjs garbageOf garbageR objsL thereB oddB badNode lostF badStub safe1 safe2 safe3 safe4 safeR
/-- stubs have no fields -/
def SV (l : List Nd) : Prop := ∀ n, n ∈ l → n.kind = 3 → n.fields = []
theorem mSS {o n : Nd} (h1 : o.kind = 3) (h2 : n.kind = 3) : mergeN o n = if o = n then some o else none := by simp [mergeN, h1, h2]
theorem mNN {o n : Nd} (h1 : ¬ o.kind = 3) (h2 : ¬ n.kind = 3) : mergeN o n = if o = n then some o else none := by
  have e1 : (o.kind == 3) = false := by simp [h1]
  have e2 : (n.kind == 3) = false := by simp [h2]
  rw [mergeN, e1, e2, if_pos rfl]
theorem mSN {o n : Nd} (h1 : o.kind = 3) (h2 : ¬ n.kind = 3) : mergeN o n = if o.cls = n.cls then some n else none := by
  have e1 : (o.kind == 3) = true := by simp [h1]
  have e2 : (n.kind == 3) = false := by simp [h2]
  rw [mergeN, e1, e2, if_neg (by simp), if_pos h1]
theorem mNS {o n : Nd} (h1 : ¬ o.kind = 3) (h2 : n.kind = 3) : mergeN o n = if o.cls = n.cls then some o else none := by
  have e1 : (o.kind == 3) = false := by simp [h1]
  have e2 : (n.kind == 3) = true := by simp [h2]
  rw [mergeN, e1, e2, if_neg (by simp), if_neg h1]
theorem stub_eq {o n : Nd} (h1 : o.kind = 3) (h2 : n.kind = 3) (h : o.id = n.id) (h3 : o.fields = []) (h4 : n.fields = []) : (o = n) = (o.cls = n.cls) := by
  cases o; cases n; simp_all
theorem bind_ite {c : Prop} [Decidable c] {x : Nd} (f : Nd → Option Nd) : (if c then some x else none).bind f = if c then f x else none := by split <;> rfl
theorem merge_swap {o a b : Nd} (ho : o.kind = 3 → o.fields = []) (ha : a.kind = 3 → a.fields = []) (hb : b.kind = 3 → b.fields = []) (h1 : a.id = o.id) (h2 : b.id = o.id) : (mergeN o a).bind (fun m => mergeN m b) = (mergeN o b).bind (fun m => mergeN m a) := by
  by_cases k1 : o.kind = 3 <;> by_cases k2 : a.kind = 3 <;> by_cases k3 : b.kind = 3
  · simp only [mSS k1 k2, mSS k1 k3, bind_ite, stub_eq k1 k2 h1.symm (ho k1) (ha k2), stub_eq k1 k3 h2.symm (ho k1) (hb k3)]
    split <;> split <;> rfl
  · simp only [mSS k1 k2, mSN k1 k3, bind_ite, stub_eq k1 k2 h1.symm (ho k1) (ha k2), mNS k3 k2]
    split <;> split <;> (try split) <;> simp_all
  · simp only [mSS k1 k3, mSN k1 k2, bind_ite, stub_eq k1 k3 h2.symm (ho k1) (hb k3), mNS k2 k3]
    split <;> split <;> (try split) <;> simp_all
  · simp only [mSN k1 k3, mSN k1 k2, bind_ite, mNN k2 k3, mNN k3 k2]
    by_cases e : a = b
    · subst e; rfl
    · simp only [if_neg e, if_neg (Ne.symm e)]; split <;> split <;> rfl
  · simp only [mNS k1 k2, mNS k1 k3, bind_ite]
    split <;> split <;> rfl
  · simp only [mNS k1 k2, mNN k1 k3, bind_ite]
    split <;> split <;> rfl
  · simp only [mNS k1 k3, mNN k1 k2, bind_ite]
    split <;> split <;> rfl
  · simp only [mNN k1 k3, mNN k1 k2, bind_ite]
    split <;> split <;> rfl
theorem merge_comm (a b : Nd) (h : a.id = b.id) (ha : a.kind = 3 → a.fields = []) (hb : b.kind = 3 → b.fields = []) : mergeN a b = mergeN b a := by
  by_cases k1 : a.kind = 3 <;> by_cases k2 : b.kind = 3
  · rw [mSS k1 k2, mSS k2 k1]
    by_cases e : a = b
    · subst e; rfl
    · rw [if_neg e, if_neg (Ne.symm e)]
  · rw [mSN k1 k2, mNS k2 k1]
    by_cases e : a.cls = b.cls
    · rw [if_pos e, if_pos e.symm]
    · rw [if_neg e, if_neg (Ne.symm e)]
  · rw [mNS k1 k2, mSN k2 k1]
    by_cases e : a.cls = b.cls
    · rw [if_pos e, if_pos e.symm]
    · rw [if_neg e, if_neg (Ne.symm e)]
  · rw [mNN k1 k2, mNN k2 k1]
    by_cases e : a = b
    · subst e; rfl
    · rw [if_neg e, if_neg (Ne.symm e)]
/-- what is put in the place of what was found -/
def mg : Option Nd → Nd → Option Nd
  | none, n => some n
  | some o, n => mergeN o n
theorem mg_swap {q : Option Nd} {a b : Nd} (hq : ∀ o, q = some o → o.id = a.id ∧ (o.kind = 3 → o.fields = [])) (hab : a.id = b.id) (ha : a.kind = 3 → a.fields = []) (hb : b.kind = 3 → b.fields = []) : (mg q a).bind (fun m => mg (some m) b) = (mg q b).bind (fun m => mg (some m) a) := by
  cases q with
  | none => simp only [mg, Option.bind_some]; exact merge_comm a b hab ha hb
  | some o =>
    obtain ⟨h1, h2⟩ := hq o rfl
    exact merge_swap h2 ha hb h1.symm (by rw [← hab]; exact h1.symm)
theorem insN_look {l : List Nd} {n : Nd} (hs : SN l) : match mg (findG l n.id) n with
    | none => insN l n = none
    | some m => ∃ l', insN l n = some l' ∧ SN l' ∧ ∀ id, findG l' id = if id = n.id then some m else findG l id := by
  have k := insN_spec (n := n) hs
  cases hf : findG l n.id with
  | none =>
    rw [hf] at k
    obtain ⟨l', e1, e2, _, _, e5⟩ := k
    exact ⟨l', e1, e2, e5⟩
  | some o =>
    rw [hf] at k
    simp only [mg]
    cases hm : mergeN o n with
    | none => simp only [hm] at k; exact k
    | some m =>
      simp only [hm] at k
      obtain ⟨l', e1, e2, _, _, e5⟩ := k
      exact ⟨l', e1, e2, e5⟩
theorem SN_ext {l r : List Nd} (hl : SN l) (hr : SN r) (h : ∀ id, findG l id = findG r id) : l = r := by
  refine SN_unique hl hr fun x => ⟨fun hx => ?_, fun hx => ?_⟩
  · have := findG_mem hl hx
    rw [h] at this
    exact (findG_some this).1
  · have := findG_mem hr hx
    rw [← h] at this
    exact (findG_some this).1
theorem insN_swap {acc : List Nd} {a b : Nd} (hs : SN acc) (hv : SV acc) (ha : a.kind = 3 → a.fields = []) (hb : b.kind = 3 → b.fields = []) : (insN acc a).bind (fun x => insN x b) = (insN acc b).bind (fun x => insN x a) := by
  have la := insN_look (n := a) hs
  have lb := insN_look (n := b) hs
  by_cases hab : a.id = b.id
  · have hsw := mg_swap (q := findG acc a.id) (a := a) (b := b) (fun o ho => ⟨(findG_some ho).2, hv o (findG_some ho).1⟩) hab ha hb
    rw [← hab] at lb
    cases h1 : mg (findG acc a.id) a with
    | none =>
      simp only [h1] at la
      rw [la]
      cases h2 : mg (findG acc a.id) b with
      | none => simp only [h2] at lb; rw [lb]; rfl
      | some m2 =>
        simp only [h2] at lb
        obtain ⟨l2, e1, e2, e3⟩ := lb
        rw [e1, Option.bind_none, Option.bind_some]
        rw [h1, h2, Option.bind_none, Option.bind_some] at hsw
        have := insN_look (n := a) e2
        rw [e3 a.id, if_pos rfl, ← hsw] at this
        exact this.symm
    | some m1 =>
      simp only [h1] at la
      obtain ⟨l1, d1, d2, d3⟩ := la
      rw [d1, Option.bind_some]
      cases h2 : mg (findG acc a.id) b with
      | none =>
        simp only [h2] at lb
        rw [lb, Option.bind_none]
        rw [h1, h2, Option.bind_none, Option.bind_some] at hsw
        have := insN_look (n := b) d2
        rw [d3 b.id, if_pos hab.symm, hsw] at this
        exact this
      | some m2 =>
        simp only [h2] at lb
        obtain ⟨l2, e1, e2, e3⟩ := lb
        rw [e1, Option.bind_some]
        rw [h1, h2, Option.bind_some, Option.bind_some] at hsw
        have t1 := insN_look (n := b) d2
        have t2 := insN_look (n := a) e2
        rw [d3 b.id, if_pos hab.symm] at t1
        rw [e3 a.id, if_pos rfl] at t2
        rw [hsw] at t1
        cases h3 : mg (some m2) a with
        | none => simp only [h3] at t1 t2; rw [t1, t2]
        | some m =>
          simp only [h3] at t1 t2
          obtain ⟨r1, f1, f2, f3⟩ := t1
          obtain ⟨r2, g1, g2, g3⟩ := t2
          rw [f1, g1]
          congr 1
          refine SN_ext f2 g2 fun id => ?_
          rw [f3, g3, d3, e3, hab]
          split <;> rfl
  · cases h1 : mg (findG acc a.id) a with
    | none =>
      simp only [h1] at la
      rw [la, Option.bind_none]
      cases h2 : mg (findG acc b.id) b with
      | none => simp only [h2] at lb; rw [lb]; rfl
      | some m2 =>
        simp only [h2] at lb
        obtain ⟨l2, e1, e2, e3⟩ := lb
        rw [e1, Option.bind_some]
        have := insN_look (n := a) e2
        rw [e3 a.id, if_neg hab, h1] at this
        exact this.symm
    | some m1 =>
      simp only [h1] at la
      obtain ⟨l1, d1, d2, d3⟩ := la
      rw [d1, Option.bind_some]
      have t1 := insN_look (n := b) d2
      rw [d3 b.id, if_neg (Ne.symm hab)] at t1
      cases h2 : mg (findG acc b.id) b with
      | none =>
        simp only [h2] at lb t1
        rw [lb, t1, Option.bind_none]
      | some m2 =>
        simp only [h2] at lb t1
        obtain ⟨l2, e1, e2, e3⟩ := lb
        obtain ⟨r1, f1, f2, f3⟩ := t1
        rw [e1, Option.bind_some, f1]
        have t2 := insN_look (n := a) e2
        rw [e3 a.id, if_neg hab, h1] at t2
        obtain ⟨r2, g1, g2, g3⟩ := t2
        rw [g1]
        congr 1
        refine SN_ext f2 g2 fun id => ?_
        rw [f3, g3, d3, e3]
        by_cases i1 : id = b.id
        · have : id ≠ a.id := fun e => hab (e.symm.trans i1)
          simp [i1, Ne.symm hab]
        · simp [i1]
theorem insAll_cons (acc : List Nd) (n : Nd) (r : List Nd) : insAll acc (n :: r) = (insN acc n).bind fun a => insAll a r := by
  rw [insAll]; cases insN acc n <;> rfl
theorem insAll_perm {l l' : List Nd} (hp : l.Perm l') : ∀ acc, SN acc → SV acc → SV l → insAll acc l = insAll acc l' := by
  induction hp with
  | nil => intro acc _ _ _; rfl
  | cons x hp ih =>
    intro acc hs hv hl
    rw [insAll_cons, insAll_cons]
    cases h : insN acc x with
    | none => rfl
    | some a =>
      simp only [Option.bind_some]
      obtain ⟨h1, _, h3⟩ := insN_mem hs h
      exact ih a h1 (fun n hn => by
        rcases h3 n hn with rfl | hn
        · exact hl _ (by simp)
        · exact hv n hn) fun n hn => hl n (List.mem_cons_of_mem _ hn)
  | swap x y l =>
    intro acc hs hv hl
    have hsw := insN_swap hs hv (hl x (by simp)) (hl y (by simp))
    have key : ∀ u v, insAll acc (u :: v :: l) = ((insN acc u).bind fun a => insN a v).bind fun a => insAll a l := by
      intro u v
      rw [insAll_cons]
      cases insN acc u with
      | none => rfl
      | some a => simp only [Option.bind_some]; rw [insAll_cons]
    rw [key, key, hsw]
  | trans h1 h2 ih1 ih2 =>
    intro acc hs hv hl
    rw [ih1 acc hs hv hl]
    exact ih2 acc hs hv fun n hn => hl n (h1.mem_iff.2 hn)
theorem nodeB_stub {n : Nd} (h : nodeB n = true) (hk : n.kind = 3) : n.fields = [] := by
  rw [nodeB, Bool.and_eq_true] at h
  have := h.2
  rw [kindB, hk] at this
  simp at this
  exact this
theorem validG_nodes : ∀ {g : List Nd} {q : Option Nd}, valAux q g = true → ∀ n, n ∈ g → nodeB n = true
  | [], _, _, n, hn => by cases hn
  | x :: g, q, h, n, hn => by
    rw [valAux.eq_def] at h
    simp only [Bool.and_eq_true] at h
    rcases List.mem_cons.1 hn with rfl | hn
    · exact h.1
    · exact validG_nodes h.2.2 n hn
theorem unionR_perm {l l' : List (List Nd)} (hp : l.Perm l') : unionR l = unionR l' := by
  have hall : l.all validG = l'.all validG := by
    rw [Bool.eq_iff_iff, List.all_eq_true, List.all_eq_true]
    exact ⟨fun h x hx => h x (hp.mem_iff.2 hx), fun h x hx => h x (hp.mem_iff.1 hx)⟩
  rw [unionR, unionR, hall]
  split
  · rename_i h
    rw [← hall, List.all_eq_true] at h
    rw [insAll_perm hp.flatten [] List.Pairwise.nil (fun n hn => by cases hn) fun n hn hk => ?_]
    obtain ⟨g, hg, hn⟩ := List.mem_flatten.1 hn
    have := h g hg
    rw [validG] at this
    exact nodeB_stub (validG_nodes this n hn) hk
  · rfl
end Go.Proofs.YtfhoecgiahpddaaGreat
/-
  PLAIN: what the observer computes from views in another order.
-/
set_option linter.all false
namespace Go.Proofs.YtfhoecgiahpddaaGreat
open Go.Mesh Go.RowKit
set_option maxRecDepth 100000
set_option linter.unusedVariables false
set_option maxHeartbeats 4000000
attribute [local irreducible] WP OPS ANY ANYo LG LV FSpec PSpec QOP OPc OPw thenQ blockQ roundQ roundF retQ retM Rd At SLB OS cmpI orI cmpID namedB valB nodeB kindB validG valAux idxI findG zeroV viewOf vwAt idxOf recv flyB scionOf moveOf numberedOf idOf valueOf mget mput localB carriedB stubOf followF followOf flOf flightsOf flPre setL minusL compactL putI mergeN insN insAll unionR NMap Coll retN bodyS GMap Dfs refsV refsOf reachL movedOf movedG graphParts graphR isMove flightIDs mailIDs viewIDs rawRoots rootsR reachR deadN viewObjs garbageOf garbageR objsL thereB oddB badNode lostF badStub safe1 safe2 safe3 safe4 safeR
theorem find_key {α : Type} (f : α → Int) {l : List α} (hn : (l.map f).Nodup) {x : α} {m : Int} : (l.find? fun v => decide (f v = m)) = some x ↔ x ∈ l ∧ f x = m := by
  induction l with
  | nil => simp
  | cons y l ih =>
    simp only [List.map_cons, List.nodup_cons] at hn
    rw [List.find?_cons]
    by_cases h : f y = m
    · simp only [h, decide_true]
      constructor
      · intro e; cases e; exact ⟨by simp, h⟩
      · rintro ⟨hx, e⟩
        rcases List.mem_cons.1 hx with r | r
        · rw [r]
        · exact absurd (List.mem_map.2 ⟨x, r, e.trans h.symm⟩) hn.1
    · simp only [h, decide_false, ih hn.2, List.mem_cons]
      constructor
      · rintro ⟨a, b⟩; exact ⟨.inr a, b⟩
      · rintro ⟨a | a, b⟩
        · subst a; exact absurd b h
        · exact ⟨a, b⟩
theorem viewOf_perm {vs ws : List View} (hp : ws.Perm vs) (hn : (vs.map (·.machine)).Nodup) : viewOf ws = viewOf vs := by
  have hn' : (ws.map (·.machine)).Nodup := (hp.map (·.machine)).nodup_iff.2 hn
  funext m
  apply Option.ext
  intro x
  unfold viewOf
  rw [find_key (fun v : View => v.machine) hn', find_key (fun v : View => v.machine) hn, hp.mem_iff]
theorem any_perm {α : Type} {l r : List α} (hp : l.Perm r) (p : α → Bool) : l.any p = r.any p := by
  rw [Bool.eq_iff_iff, List.any_eq_true, List.any_eq_true]
  exact ⟨fun ⟨x, h, e⟩ => ⟨x, hp.mem_iff.1 h, e⟩, fun ⟨x, h, e⟩ => ⟨x, hp.mem_iff.2 h, e⟩⟩
theorem flatMap_perm {α β : Type} {l r : List α} (hp : l.Perm r) (f : α → List β) : (l.flatMap f).Perm (r.flatMap f) := by
  induction hp with
  | nil => exact .refl _
  | cons x _ ih => simp only [List.flatMap_cons]; exact List.Perm.append_left _ ih
  | swap x y l => simp only [List.flatMap_cons, ← List.append_assoc]; exact List.perm_append_comm.append_right _
  | trans _ _ h1 h2 => exact h1.trans h2
theorem sum_perm {l r : List Nat} (hp : l.Perm r) : l.sum = r.sum := by
  induction hp with
  | nil => rfl
  | cons x _ ih => simp [ih]
  | swap x y l => simp only [List.sum_cons]; omega
  | trans _ _ h1 h2 => exact h1.trans h2
section
variable {vs ws : List View} (h : viewOf ws = viewOf vs)
include h
theorem vwAt_eq : vwAt ws = vwAt vs := by funext m; unfold vwAt; rw [h]
theorem flyB_eq : flyB ws = flyB vs := by funext v x; unfold flyB; rw [h, vwAt_eq h]
theorem scionOf_eq : scionOf ws = scionOf vs := by funext a b c; unfold scionOf; rw [vwAt_eq h]
theorem moveOf_eq : moveOf ws = moveOf vs := by funext a b c; unfold moveOf; rw [vwAt_eq h, flyB_eq h]
theorem numberedOf_eq : numberedOf ws = numberedOf vs := by funext a b c; unfold numberedOf; rw [scionOf_eq h, moveOf_eq h]
theorem idOf_eq : idOf ws = idOf vs := by funext a b c; unfold idOf; rw [numberedOf_eq h]
theorem valueOf_eq : valueOf ws = valueOf vs := by funext a b c; unfold valueOf; rw [idOf_eq h]
theorem movedOf_eq : movedOf ws = movedOf vs := by funext a; unfold movedOf; rw [valueOf_eq h]
theorem flightIDs_eq : flightIDs ws = flightIDs vs := by funext a; unfold flightIDs; rw [numberedOf_eq h, idOf_eq h]
theorem carriedB_eq : carriedB ws = carriedB vs := by funext a b c d; unfold carriedB; rw [vwAt_eq h, flyB_eq h]
theorem lostF_eq : lostF ws = lostF vs := by funext a; unfold lostF; rw [numberedOf_eq h]
theorem followF_eq (id : ID) : ∀ n, followF ws id n = followF vs id n
  | 0 => by funext m out; rw [followF, followF]
  | n + 1 => by funext m out; rw [followF, followF, h, vwAt_eq h, scionOf_eq h, carriedB_eq h, followF_eq id n]
theorem followOf_eq (hl : ws.length = vs.length) : followOf ws = followOf vs := by funext m id; unfold followOf; rw [hl, followF_eq h]
theorem badStub_eq (hl : ws.length = vs.length) : badStub ws = badStub vs := by funext a b c; unfold badStub; rw [followOf_eq h hl]
theorem flOf_eq : flOf ws = flOf vs := by funext a; unfold flOf; rw [flyB_eq h]
theorem flightsOf_perm (hp : ws.Perm vs) : (flightsOf ws).Perm (flightsOf vs) := by
  unfold flightsOf; rw [flOf_eq h]; exact flatMap_perm hp _
theorem graphR_eq (hp : ws.Perm vs) : graphR ws = graphR vs := by
  unfold graphR
  refine unionR_perm ?_
  unfold graphParts movedG
  rw [movedOf_eq h]
  exact (hp.map _).append (((flightsOf_perm h hp).filter _).map _)
theorem rootsR_eq (hp : ws.Perm vs) : rootsR ws = rootsR vs := by
  have h1 : (rawRoots ws).Perm (rawRoots vs) := by
    unfold rawRoots
    rw [flightIDs_eq h]
    exact (flatMap_perm hp _).append (flatMap_perm (flightsOf_perm h hp) _)
  have h2 : setL (rawRoots ws) = setL (rawRoots vs) := SI_unique (SI_setL _) (SI_setL _) fun z => by rw [mem_setL, mem_setL, h1.mem_iff]
  unfold rootsR
  rw [h2]
theorem reachR_eq (hp : ws.Perm vs) : reachR ws = reachR vs := by unfold reachR; rw [graphR_eq h hp, rootsR_eq h hp]
theorem garbageR_eq (hp : ws.Perm vs) : garbageR ws = garbageR vs := by
  unfold garbageR; rw [reachR_eq h hp]; exact sum_perm (hp.map _)
theorem safeR_eq (hp : ws.Perm vs) : safeR ws = safeR vs := by
  unfold safeR safe1 safe2 safe3 safe4
  rw [graphR_eq h hp, rootsR_eq h hp, lostF_eq h, badStub_eq h hp.length_eq, any_perm (flightsOf_perm h hp)]
  simp only [any_perm hp]
end
end Go.Proofs.YtfhoecgiahpddaaGreat
/-
  CONTRACT: refmeshref55.Few, at views of any size.
-/
set_option linter.all false
namespace Go.Proofs.YtfhoecgiahpddaaGreat
open Go.Mesh Go.RowKit
set_option maxRecDepth 100000
set_option linter.unusedVariables false
set_option maxHeartbeats 4000000
attribute [local irreducible] WP OPS ANY ANYo LG LV FSpec PSpec QOP OPc OPw thenQ blockQ roundQ roundF retQ retM Rd At SLB OS cmpI orI cmpID namedB valB nodeB kindB validG valAux idxI findG
def msgB (m : Msg) : Bool := decide (m.args.length ≤ 6) && (decide (m.parcel.fields.length ≤ 6) && (decide (m.parcel.mail.length ≤ 4) && m.parcel.mail.all fun l => decide (l.length ≤ 6)))
def sizesB (v : View) : Bool := decide (v.objects.length ≤ 12 ∧ v.stubs.length ≤ 12 ∧ v.scions.length ≤ 12 ∧ v.names.length ≤ 6 ∧ v.mail.length ≤ 6 ∧ v.flights.length ≤ 6 ∧ v.received.length ≤ 10)
def smallV (v : View) : Bool := sizesB v && (v.objects.all (fun n => decide (n.fields.length ≤ 6)) && (v.mail.all (fun m => decide (m.args.length ≤ 6)) && v.flights.all fun x => msgB x.msg))
def fewB (vs : List View) : Bool := vs.all smallV && decide (vs.length ≤ 5)
theorem few_false {vs : List View} {v : View} (hm : v ∈ vs) (hf : smallV v = false) : fewB vs = false := by
  rw [fewB, Bool.and_eq_false_iff]
  exact .inl (by rw [List.all_eq_false]; exact ⟨v, hm, by simp [hf]⟩)
theorem sizes_false {v : View} (h : ¬ (v.objects.length ≤ 12 ∧ v.stubs.length ≤ 12 ∧ v.scions.length ≤ 12 ∧ v.names.length ≤ 6 ∧ v.mail.length ≤ 6 ∧ v.flights.length ≤ 6 ∧ v.received.length ≤ 10)) : smallV v = false := by
  rw [smallV, sizesB, decide_eq_false h]; rfl
theorem objs_false {v : View} (h : (v.objects.all fun n => decide (n.fields.length ≤ 6)) = false) : smallV v = false := by rw [smallV, h]; simp
theorem mail_false {v : View} (h : (v.mail.all fun n => decide (n.args.length ≤ 6)) = false) : smallV v = false := by rw [smallV, h]; simp
theorem fl_false {v : View} (h : (v.flights.all fun x => msgB x.msg) = false) : smallV v = false := by rw [smallV, h]; simp
theorem msg_false {m : Msg} (h : ¬ (m.args.length ≤ 6 ∧ m.parcel.fields.length ≤ 6 ∧ m.parcel.mail.length ≤ 4)) : msgB m = false := by
  rw [msgB]
  by_cases h1 : m.args.length ≤ 6
  · by_cases h2 : m.parcel.fields.length ≤ 6
    · have h3 : ¬ m.parcel.mail.length ≤ 4 := fun h3 => h ⟨h1, h2, h3⟩
      simp [h3]
    · simp [h2]
  · simp [h1]
theorem msgm_false {m : Msg} (h : (m.parcel.mail.all fun l => decide (l.length ≤ 6)) = false) : msgB m = false := by rw [msgB, h]; simp
theorem msg_true {m : Msg} (h : m.args.length ≤ 6 ∧ m.parcel.fields.length ≤ 6 ∧ m.parcel.mail.length ≤ 4) (h2 : (m.parcel.mail.all fun l => decide (l.length ≤ 6)) = true) : msgB m = true := by
  rw [msgB, h2, decide_eq_true h.1, decide_eq_true h.2.1, decide_eq_true h.2.2]; rfl
theorem small_true {v : View} (h : v.objects.length ≤ 12 ∧ v.stubs.length ≤ 12 ∧ v.scions.length ≤ 12 ∧ v.names.length ≤ 6 ∧ v.mail.length ≤ 6 ∧ v.flights.length ≤ 6 ∧ v.received.length ≤ 10) (h1 : (v.objects.all fun n => decide (n.fields.length ≤ 6)) = true)
    (h2 : (v.mail.all fun n => decide (n.args.length ≤ 6)) = true) (h3 : (v.flights.all fun x => msgB x.msg) = true) : smallV v = true := by
  rw [smallV, sizesB, h1, h2, h3, decide_eq_true h]; rfl
attribute [local irreducible] msgB sizesB smallV fewB
theorem few_s {h : Frag} {a : Value} {vs : List View} (hs : SLB 9223372036854775807 h 13 (ViewC 9223372036854775807) a vs) : PSpec Tryz.prog 10 #[a] h (fun _ v => v = .bool (fewB vs)) := by
  have hl := hs.le
  obtain ⟨pv, cv, rfl⟩ := hs.slice
  refine pspec_of (vs := [.slice pv vs.length cv]) Tryz.func10 Tryz.ntmps10 rfl rfl ?_
  (focus (refine Wr ?_; refine Sm rfl ?_; refine On ?_; refine WP_seq ?_; refine Wr ?_; refine Sm rfl ?_; refine On ?_; refine WP_block ?_))
  (refine WP_loopC (α := Nat) [0] (fun (k : Nat) => vs.length - k) (fun (k : Nat) => [(3, .int .i64 k)]) (fun hh (k : Nat) => hh = h ∧ k ≤ vs.length ∧ (vs.drop k).all smallV = vs.all smallV) 0 ⟨_, _, rfl, rfl, rfl⟩ (by repeat' first | exact trivial | refine ⟨rfl, ?_⟩) ?_ ?_)
  · exact ⟨rfl, Nat.zero_le _, rfl⟩
  rintro h1 k _ ⟨rfl, hk, ht⟩
  by_cases hlt : k < vs.length
  · obtain ⟨v, ev⟩ := get_of hlt
    have hod := all_drop (p := smallV) ev
    rw [ht] at hod
    (focus (refine WP_seq ?_; refine Wr ?_; refine Sm rfl ?_; refine Sm rfl ?_; refine S_q rfl rfl rfl (Q_len rfl rfl rfl rfl rfl rfl) ?_; refine Sc rfl rfl rfl rfl rfl rfl rfl ?_; refine On ?_; refine WP_cond rfl (fun c2_1 => ?_) (fun c2_1 => ?_) <;> (first | (simp [*] at c2_1; done) | (try simp at c2_1)); refine WP_skip ?_; refine then_n ?_; refine WP_seq ?_; refine WP_block ?_; refine Wr ?_; refine Sm rfl ?_; refine Sm rfl ?_; refine S_q rfl rfl rfl (Q_indexS ‹_› ‹_› rfl rfl rfl (elm rfl) rfl) ?_; refine S_load rfl rfl rfl rfl rfl ?_; refine L_elA ‹_› ‹_› (ty rfl) ?_; rintro _ _ _ ⟨xi2_2, xa2_2, po2_2, qo2_2, ps2_2, qs2_2, pc2_2, qc2_2, pn2_2, qn2_2, pm2_2, qm2_2, xw2_2, xv2_2, pf2_2, qf2_2, pr2_2, qr2_2, xe2_2, xf2_2, rfl, vo2_2, vs2_2, vc2_2, vn2_2, vm2_2, vf2_2, vr2_2⟩; refine S_c rfl rfl rfl (C_alloc rfl (zer rfl) ?_); intro b2_3; refine S_w0 rfl rfl (W_all rfl rfl rfl (ty rfl) u0 (by first | rfl | assumption) (by first | rfl | assumption) (by first | rfl | assumption | exact ones_sub ‹_› _ _) ?_); refine On ?_; refine WP_seq ?_; refine Wr ?_; refine Sf rfl rfl rfl rfl rfl (fld rfl rfl) ?_; refine Sf rfl rfl rfl rfl rfl (fld rfl rfl) ?_; refine S_load rfl rfl rfl rfl rfl ?_; refine L_fld2 (Rd.own m0) ?_; refine LV_1 (ty rfl) rfl ?_; refine S_q rfl rfl rfl (Q_len rfl rfl rfl rfl rfl rfl) ?_; refine Sc rfl rfl rfl rfl rfl rfl rfl ?_; refine Sm rfl ?_; refine S_gsplit rfl rfl rfl rfl (fun c2_4 => ?_) (fun c2_4 => ?_) <;> (first | (simp [*] at c2_4; done) | (try simp at c2_4)); (focus (refine Sn rfl ?_; refine Sn rfl ?_; refine Sn rfl ?_; refine Sn rfl ?_; refine S_q rfl rfl rfl (Q_pick_t rfl rfl rfl) ?_; refine Sm rfl ?_; refine Sn rfl ?_; refine Sn rfl ?_; refine Sn rfl ?_; refine Sn rfl ?_; refine S_q rfl rfl rfl (Q_pick_t rfl rfl rfl) ?_; refine Sm rfl ?_; refine Sn rfl ?_; refine Sn rfl ?_; refine Sn rfl ?_; refine Sn rfl ?_; refine S_q rfl rfl rfl (Q_pick_t rfl rfl rfl) ?_; refine Sm rfl ?_; refine Sn rfl ?_; refine Sn rfl ?_; refine Sn rfl ?_; refine Sn rfl ?_; refine S_q rfl rfl rfl (Q_pick_t rfl rfl rfl) ?_; refine Sm rfl ?_; refine Sn rfl ?_; refine Sn rfl ?_; refine Sn rfl ?_; refine Sn rfl ?_; refine S_q rfl rfl rfl (Q_pick_t rfl rfl rfl) ?_; refine Sm rfl ?_; refine Sn rfl ?_; refine Sn rfl ?_; refine Sn rfl ?_; refine Sn rfl ?_; refine S_q rfl rfl rfl (Q_pick_t rfl rfl rfl) ?_; refine On ?_; refine cond_t rfl ?_; refine Wr ?_; refine Sm rfl ?_; refine On ?_; refine WP_ret ?_; refine then_r ?_; refine block_r ?_; refine then_r ?_; refine roundF_r ?_; refine block_r ?_; refine then_r ?_)); rotate_left 1; (focus (refine S_gq rfl rfl rfl rfl rfl rfl (Q_fieldAddr rfl rfl (fld rfl rfl)) ?_; refine S_gload rfl rfl rfl rfl rfl rfl rfl rfl ?_; refine L_fld (Rd.own m0) (ty rfl) rfl ?_; refine S_gq rfl rfl rfl rfl rfl rfl (Q_len rfl rfl rfl rfl rfl rfl) ?_; refine S_gq rfl rfl rfl rfl rfl rfl (Q_cmp rfl rfl rfl rfl) ?_; refine S_q rfl rfl rfl (Q_pick_f rfl rfl rfl) ?_; refine Sm rfl ?_; refine S_gsplit rfl rfl rfl rfl (fun c2_5 => ?_) (fun c2_5 => ?_) <;> (first | (simp [*] at c2_5; done) | (try simp at c2_5)); (focus (refine Sn rfl ?_; refine Sn rfl ?_; refine Sn rfl ?_; refine Sn rfl ?_; refine S_q rfl rfl rfl (Q_pick_t rfl rfl rfl) ?_; refine Sm rfl ?_; refine Sn rfl ?_; refine Sn rfl ?_; refine Sn rfl ?_; refine Sn rfl ?_; refine S_q rfl rfl rfl (Q_pick_t rfl rfl rfl) ?_; refine Sm rfl ?_; refine Sn rfl ?_; refine Sn rfl ?_; refine Sn rfl ?_; refine Sn rfl ?_; refine S_q rfl rfl rfl (Q_pick_t rfl rfl rfl) ?_; refine Sm rfl ?_; refine Sn rfl ?_; refine Sn rfl ?_; refine Sn rfl ?_; refine Sn rfl ?_; refine S_q rfl rfl rfl (Q_pick_t rfl rfl rfl) ?_; refine Sm rfl ?_; refine Sn rfl ?_; refine Sn rfl ?_; refine Sn rfl ?_; refine Sn rfl ?_; refine S_q rfl rfl rfl (Q_pick_t rfl rfl rfl) ?_; refine On ?_; refine cond_t rfl ?_; refine Wr ?_; refine Sm rfl ?_; refine On ?_; refine WP_ret ?_; refine then_r ?_; refine block_r ?_; refine then_r ?_; refine roundF_r ?_; refine block_r ?_; refine then_r ?_)); rotate_left 1; (focus (refine S_gq rfl rfl rfl rfl rfl rfl (Q_fieldAddr rfl rfl (fld rfl rfl)) ?_; refine S_gload rfl rfl rfl rfl rfl rfl rfl rfl ?_; refine L_fld (Rd.own m0) (ty rfl) rfl ?_; refine S_gq rfl rfl rfl rfl rfl rfl (Q_len rfl rfl rfl rfl rfl rfl) ?_; refine S_gq rfl rfl rfl rfl rfl rfl (Q_cmp rfl rfl rfl rfl) ?_; refine S_q rfl rfl rfl (Q_pick_f rfl rfl rfl) ?_; refine Sm rfl ?_; refine S_gsplit rfl rfl rfl rfl (fun c2_6 => ?_) (fun c2_6 => ?_) <;> (first | (simp [*] at c2_6; done) | (try simp at c2_6)); (focus (refine Sn rfl ?_; refine Sn rfl ?_; refine Sn rfl ?_; refine Sn rfl ?_; refine S_q rfl rfl rfl (Q_pick_t rfl rfl rfl) ?_; refine Sm rfl ?_; refine Sn rfl ?_; refine Sn rfl ?_; refine Sn rfl ?_; refine Sn rfl ?_; refine S_q rfl rfl rfl (Q_pick_t rfl rfl rfl) ?_; refine Sm rfl ?_; refine Sn rfl ?_; refine Sn rfl ?_; refine Sn rfl ?_; refine Sn rfl ?_; refine S_q rfl rfl rfl (Q_pick_t rfl rfl rfl) ?_; refine Sm rfl ?_; refine Sn rfl ?_; refine Sn rfl ?_; refine Sn rfl ?_; refine Sn rfl ?_; refine S_q rfl rfl rfl (Q_pick_t rfl rfl rfl) ?_; refine On ?_; refine cond_t rfl ?_; refine Wr ?_; refine Sm rfl ?_; refine On ?_; refine WP_ret ?_; refine then_r ?_; refine block_r ?_; refine then_r ?_; refine roundF_r ?_; refine block_r ?_; refine then_r ?_)); rotate_left 1; (focus (refine S_gq rfl rfl rfl rfl rfl rfl (Q_fieldAddr rfl rfl (fld rfl rfl)) ?_; refine S_gload rfl rfl rfl rfl rfl rfl rfl rfl ?_; refine L_fld (Rd.own m0) (ty rfl) rfl ?_; refine S_gq rfl rfl rfl rfl rfl rfl (Q_len rfl rfl rfl rfl rfl rfl) ?_; refine S_gq rfl rfl rfl rfl rfl rfl (Q_cmp rfl rfl rfl rfl) ?_; refine S_q rfl rfl rfl (Q_pick_f rfl rfl rfl) ?_; refine Sm rfl ?_; refine S_gsplit rfl rfl rfl rfl (fun c2_7 => ?_) (fun c2_7 => ?_) <;> (first | (simp [*] at c2_7; done) | (try simp at c2_7)); (focus (refine Sn rfl ?_; refine Sn rfl ?_; refine Sn rfl ?_; refine Sn rfl ?_; refine S_q rfl rfl rfl (Q_pick_t rfl rfl rfl) ?_; refine Sm rfl ?_; refine Sn rfl ?_; refine Sn rfl ?_; refine Sn rfl ?_; refine Sn rfl ?_; refine S_q rfl rfl rfl (Q_pick_t rfl rfl rfl) ?_; refine Sm rfl ?_; refine Sn rfl ?_; refine Sn rfl ?_; refine Sn rfl ?_; refine Sn rfl ?_; refine S_q rfl rfl rfl (Q_pick_t rfl rfl rfl) ?_; refine On ?_; refine cond_t rfl ?_; refine Wr ?_; refine Sm rfl ?_; refine On ?_; refine WP_ret ?_; refine then_r ?_; refine block_r ?_; refine then_r ?_; refine roundF_r ?_; refine block_r ?_; refine then_r ?_)); rotate_left 1; (focus (refine S_gq rfl rfl rfl rfl rfl rfl (Q_fieldAddr rfl rfl (fld rfl rfl)) ?_; refine S_gload rfl rfl rfl rfl rfl rfl rfl rfl ?_; refine L_fld (Rd.own m0) (ty rfl) rfl ?_; refine S_gq rfl rfl rfl rfl rfl rfl (Q_len rfl rfl rfl rfl rfl rfl) ?_; refine S_gq rfl rfl rfl rfl rfl rfl (Q_cmp rfl rfl rfl rfl) ?_; refine S_q rfl rfl rfl (Q_pick_f rfl rfl rfl) ?_; refine Sm rfl ?_; refine S_gsplit rfl rfl rfl rfl (fun c2_8 => ?_) (fun c2_8 => ?_) <;> (first | (simp [*] at c2_8; done) | (try simp at c2_8)); (focus (refine Sn rfl ?_; refine Sn rfl ?_; refine Sn rfl ?_; refine Sn rfl ?_; refine S_q rfl rfl rfl (Q_pick_t rfl rfl rfl) ?_; refine Sm rfl ?_; refine Sn rfl ?_; refine Sn rfl ?_; refine Sn rfl ?_; refine Sn rfl ?_; refine S_q rfl rfl rfl (Q_pick_t rfl rfl rfl) ?_; refine On ?_; refine cond_t rfl ?_; refine Wr ?_; refine Sm rfl ?_; refine On ?_; refine WP_ret ?_; refine then_r ?_; refine block_r ?_; refine then_r ?_; refine roundF_r ?_; refine block_r ?_; refine then_r ?_)); rotate_left 1; (focus (refine S_gq rfl rfl rfl rfl rfl rfl (Q_fieldAddr rfl rfl (fld rfl rfl)) ?_; refine S_gload rfl rfl rfl rfl rfl rfl rfl rfl ?_; refine L_fld (Rd.own m0) (ty rfl) rfl ?_; refine S_gq rfl rfl rfl rfl rfl rfl (Q_len rfl rfl rfl rfl rfl rfl) ?_; refine S_gq rfl rfl rfl rfl rfl rfl (Q_cmp rfl rfl rfl rfl) ?_; refine S_q rfl rfl rfl (Q_pick_f rfl rfl rfl) ?_; refine Sm rfl ?_; refine S_gsplit rfl rfl rfl rfl (fun c2_9 => ?_) (fun c2_9 => ?_) <;> (first | (simp [*] at c2_9; done) | (try simp at c2_9)); (focus (refine Sn rfl ?_; refine Sn rfl ?_; refine Sn rfl ?_; refine Sn rfl ?_; refine S_q rfl rfl rfl (Q_pick_t rfl rfl rfl) ?_; refine On ?_; refine cond_t rfl ?_; refine Wr ?_; refine Sm rfl ?_; refine On ?_; refine WP_ret ?_; refine then_r ?_; refine block_r ?_; refine then_r ?_; refine roundF_r ?_; refine block_r ?_; refine then_r ?_)); rotate_left 1; (focus (refine S_gq rfl rfl rfl rfl rfl rfl (Q_fieldAddr rfl rfl (fld rfl rfl)) ?_; refine S_gload rfl rfl rfl rfl rfl rfl rfl rfl ?_; refine L_fld (Rd.own m0) (ty rfl) rfl ?_; refine S_gq rfl rfl rfl rfl rfl rfl (Q_len rfl rfl rfl rfl rfl rfl) ?_; refine S_gq rfl rfl rfl rfl rfl rfl (Q_cmp rfl rfl rfl rfl) ?_; refine S_q rfl rfl rfl (Q_pick_f rfl rfl rfl) ?_; refine On ?_; refine WP_cond rfl (fun c2_10 => ?_) (fun c2_10 => ?_) <;> (first | (simp [*] at c2_10; done) | (try simp at c2_10)); (focus (refine Wr ?_; refine Sm rfl ?_; refine On ?_; refine WP_ret ?_; refine then_r ?_; refine block_r ?_; refine then_r ?_; refine roundF_r ?_; refine block_r ?_; refine then_r ?_)); rotate_left 1; (focus (refine WP_skip ?_; refine then_n ?_; refine WP_seq ?_; refine Wr ?_; refine Sm rfl ?_; refine On ?_; refine WP_block ?_)); rotate_left 1)); rotate_left 2)); rotate_left 3)); rotate_left 4)); rotate_left 5)); rotate_left 6)); rotate_left 7))
    iterate 7
      · refine pret (.inl rfl) rfl ⟨_, _, rfl, rfl, rfl⟩ ?_
        refine congrArg Value.bool (few_false (List.mem_of_getElem? ev) (sizes_false ?_)).symm
        omega
    (refine WP_loopC (α := Nat) [4, 3, 0] (fun (j : Nat) => v.objects.length - j) (fun (j : Nat) => [(5, .int .i64 j)]) (fun hh (j : Nat) => hh = h1 ∧ j ≤ v.objects.length ∧ (v.objects.drop j).all (fun n => decide (n.fields.length ≤ 6)) = v.objects.all (fun n => decide (n.fields.length ≤ 6))) 0 ⟨_, _, rfl, ⟨_, _, rfl, ⟨_, _, rfl, rfl, rfl⟩, rfl⟩, rfl⟩ (by repeat' first | exact trivial | refine ⟨rfl, ?_⟩) ?_ ?_)
    · exact ⟨rfl, Nat.zero_le _, rfl⟩
    rintro h2 j _ ⟨rfl, hj, ht2⟩
    by_cases hlt2 : j < v.objects.length
    · obtain ⟨n, en⟩ := get_of hlt2
      have hod2 := all_drop (p := fun n : Nd => decide (n.fields.length ≤ 6)) en
      rw [ht2] at hod2
      (focus (refine WP_seq ?_; refine Wr ?_; refine Sm rfl ?_; refine Sf rfl rfl rfl rfl rfl (fld rfl rfl) ?_; refine Sf rfl rfl rfl rfl rfl (fld rfl rfl) ?_; refine S_load rfl rfl rfl rfl rfl ?_; refine L_fld2 (Rd.own m0) ?_; refine LV_1 (ty rfl) rfl ?_; refine S_q rfl rfl rfl (Q_len rfl rfl rfl rfl rfl rfl) ?_; refine Sc rfl rfl rfl rfl rfl rfl rfl ?_; refine On ?_; refine WP_cond rfl (fun c4_1 => ?_) (fun c4_1 => ?_) <;> (first | (simp [*] at c4_1; done) | (try simp at c4_1)); refine WP_skip ?_; refine then_n ?_; refine WP_seq ?_; refine WP_block ?_; refine Wr ?_; refine Sf rfl rfl rfl rfl rfl (fld rfl rfl) ?_; refine Sf rfl rfl rfl rfl rfl (fld rfl rfl) ?_; refine S_load rfl rfl rfl rfl rfl ?_; refine L_fld2 (Rd.own m0) ?_; refine LV_1 (ty rfl) rfl ?_; refine Sm rfl ?_; refine S_q rfl rfl rfl (Q_indexS ‹_› ‹_› rfl rfl rfl (elm rfl) rfl) ?_; refine Sf rfl rfl rfl rfl rfl (fld rfl rfl) ?_; refine S_load rfl rfl rfl rfl rfl ?_; refine L_elF ‹_› ‹_› ?_; rintro _ _ _ ⟨pn4_2, qn4_2, rfl, fn4_2⟩; refine LV_1 (ty rfl) rfl ?_; refine S_q rfl rfl rfl (Q_len rfl rfl rfl rfl rfl rfl) ?_; refine Sc rfl rfl rfl rfl rfl rfl rfl ?_; refine On ?_; refine WP_cond rfl (fun c4_3 => ?_) (fun c4_3 => ?_) <;> (first | (simp [*] at c4_3; done) | (try simp at c4_3)); (focus (refine Wr ?_; refine Sm rfl ?_; refine On ?_; refine WP_ret ?_; refine block_r ?_; refine then_r ?_; refine roundF_r ?_; refine block_r ?_; refine then_r ?_; refine block_r ?_; refine then_r ?_; refine roundF_r ?_; refine block_r ?_; refine then_r ?_)); rotate_left 1; (focus (refine WP_skip ?_; refine block_n ?_; refine then_n ?_; refine R_region ?_; refine Sm rfl ?_; refine S_q rfl rfl rfl (Q_add rfl rfl rfl (by omega)) ?_; refine Sm rfl ?_; refine OPS_nil ?_)); rotate_left 1))
      · refine pret (.inl rfl) rfl ⟨_, _, rfl, rfl, rfl⟩ ?_
        refine congrArg Value.bool (few_false (List.mem_of_getElem? ev) (objs_false ?_)).symm
        rw [hod2, decide_eq_false (by omega)]; rfl
      · refine roundF_n (j + 1) (by omega) ⟨rfl, by omega, ?_⟩ (by repeat' first | exact sR _ | exact sA _ _ | exact sN _ | apply s2 | apply s1) (by repeat' first | exact trivial | refine ⟨rfl, ?_⟩)
        rw [hod2, decide_eq_true (by omega)]; rfl
    have hge : j = v.objects.length := by omega
    subst hge
    rw [List.drop_length] at ht2
    (focus (refine WP_seq ?_; refine Wr ?_; refine Sm rfl ?_; refine Sf rfl rfl rfl rfl rfl (fld rfl rfl) ?_; refine Sf rfl rfl rfl rfl rfl (fld rfl rfl) ?_; refine S_load rfl rfl rfl rfl rfl ?_; refine L_fld2 (Rd.own m0) ?_; refine LV_1 (ty rfl) rfl ?_; refine S_q rfl rfl rfl (Q_len rfl rfl rfl rfl rfl rfl) ?_; refine Sc rfl rfl rfl rfl rfl rfl rfl ?_; refine On ?_; refine WP_cond rfl (fun c5_1 => ?_) (fun c5_1 => ?_) <;> (first | (simp [*] at c5_1; done) | (try simp at c5_1)); refine WP_exit ?_; refine then_e ?_; refine roundF_e ?_; refine block_e ?_; refine then_n ?_; refine WP_seq ?_; refine Wr ?_; refine Sm rfl ?_; refine On ?_; refine WP_block ?_))
    (refine WP_loopC (α := Nat) [4, 3, 0] (fun (j : Nat) => v.mail.length - j) (fun (j : Nat) => [(6, .int .i64 j)]) (fun hh (j : Nat) => hh = h2 ∧ j ≤ v.mail.length ∧ (v.mail.drop j).all (fun m => decide (m.args.length ≤ 6)) = v.mail.all (fun m => decide (m.args.length ≤ 6))) 0 ⟨_, _, rfl, ⟨_, _, rfl, ⟨_, _, rfl, rfl, rfl⟩, rfl⟩, rfl⟩ (by repeat' first | exact trivial | refine ⟨rfl, ?_⟩) ?_ ?_)
    · exact ⟨rfl, Nat.zero_le _, rfl⟩
    rintro h3 j _ ⟨rfl, hj, ht3⟩
    by_cases hlt3 : j < v.mail.length
    · obtain ⟨n, en⟩ := get_of hlt3
      have hod3 := all_drop (p := fun n : MailE => decide (n.args.length ≤ 6)) en
      rw [ht3] at hod3
      (focus (refine WP_seq ?_; refine Wr ?_; refine Sm rfl ?_; refine Sf rfl rfl rfl rfl rfl (fld rfl rfl) ?_; refine S_load rfl rfl rfl rfl rfl ?_; refine L_fld (Rd.own m0) (ty rfl) rfl ?_; refine S_q rfl rfl rfl (Q_len rfl rfl rfl rfl rfl rfl) ?_; refine Sc rfl rfl rfl rfl rfl rfl rfl ?_; refine On ?_; refine WP_cond rfl (fun c7_1 => ?_) (fun c7_1 => ?_) <;> (first | (simp [*] at c7_1; done) | (try simp at c7_1)); refine WP_skip ?_; refine then_n ?_; refine WP_seq ?_; refine WP_block ?_; refine Wr ?_; refine Sf rfl rfl rfl rfl rfl (fld rfl rfl) ?_; refine S_load rfl rfl rfl rfl rfl ?_; refine L_fld (Rd.own m0) (ty rfl) rfl ?_; refine Sm rfl ?_; refine S_q rfl rfl rfl (Q_indexS ‹_› ‹_› rfl rfl rfl (elm rfl) rfl) ?_; refine Sf rfl rfl rfl rfl rfl (fld rfl rfl) ?_; refine S_load rfl rfl rfl rfl rfl ?_; refine L_elF ‹_› ‹_› ?_; rintro _ _ _ ⟨xa7_2, xb7_2, xm7_2, pl7_2, ql7_2, rfl, fl7_2⟩; refine LV_1 (ty rfl) rfl ?_; refine S_q rfl rfl rfl (Q_len rfl rfl rfl rfl rfl rfl) ?_; refine Sc rfl rfl rfl rfl rfl rfl rfl ?_; refine On ?_; refine WP_cond rfl (fun c7_3 => ?_) (fun c7_3 => ?_) <;> (first | (simp [*] at c7_3; done) | (try simp at c7_3)); (focus (refine Wr ?_; refine Sm rfl ?_; refine On ?_; refine WP_ret ?_; refine block_r ?_; refine then_r ?_; refine roundF_r ?_; refine block_r ?_; refine then_r ?_; refine block_r ?_; refine then_r ?_; refine roundF_r ?_; refine block_r ?_; refine then_r ?_)); rotate_left 1; (focus (refine WP_skip ?_; refine block_n ?_; refine then_n ?_; refine R_region ?_; refine Sm rfl ?_; refine S_q rfl rfl rfl (Q_add rfl rfl rfl (by omega)) ?_; refine Sm rfl ?_; refine OPS_nil ?_)); rotate_left 1))
      · refine pret (.inl rfl) rfl ⟨_, _, rfl, rfl, rfl⟩ ?_
        refine congrArg Value.bool (few_false (List.mem_of_getElem? ev) (mail_false ?_)).symm
        rw [hod3, decide_eq_false (by omega)]; rfl
      · refine roundF_n (j + 1) (by omega) ⟨rfl, by omega, ?_⟩ (by repeat' first | exact sR _ | exact sA _ _ | exact sN _ | apply s2 | apply s1) (by repeat' first | exact trivial | refine ⟨rfl, ?_⟩)
        rw [hod3, decide_eq_true (by omega)]; rfl
    have hge : j = v.mail.length := by omega
    subst hge
    rw [List.drop_length] at ht3
    (focus (refine WP_seq ?_; refine Wr ?_; refine Sm rfl ?_; refine Sf rfl rfl rfl rfl rfl (fld rfl rfl) ?_; refine S_load rfl rfl rfl rfl rfl ?_; refine L_fld (Rd.own m0) (ty rfl) rfl ?_; refine S_q rfl rfl rfl (Q_len rfl rfl rfl rfl rfl rfl) ?_; refine Sc rfl rfl rfl rfl rfl rfl rfl ?_; refine On ?_; refine WP_cond rfl (fun c8_1 => ?_) (fun c8_1 => ?_) <;> (first | (simp [*] at c8_1; done) | (try simp at c8_1)); refine WP_exit ?_; refine then_e ?_; refine roundF_e ?_; refine block_e ?_; refine then_n ?_; refine Wr ?_; refine Sm rfl ?_; refine On ?_; refine WP_block ?_))
    (refine WP_loopC (α := Nat) [4, 3, 0] (fun (j : Nat) => v.flights.length - j) (fun (j : Nat) => [(7, .int .i64 j)]) (fun hh (j : Nat) => hh = h3 ∧ j ≤ v.flights.length ∧ (v.flights.drop j).all (fun x => msgB x.msg) = v.flights.all (fun x => msgB x.msg)) 0 ⟨_, _, rfl, ⟨_, _, rfl, ⟨_, _, rfl, rfl, rfl⟩, rfl⟩, rfl⟩ (by repeat' first | exact trivial | refine ⟨rfl, ?_⟩) ?_ ?_)
    · exact ⟨rfl, Nat.zero_le _, rfl⟩
    rintro h4 j _ ⟨rfl, hj, ht4⟩
    by_cases hlt4 : j < v.flights.length
    · obtain ⟨x, ex⟩ := get_of hlt4
      have hod4 := all_drop (p := fun x : Flight => msgB x.msg) ex
      rw [ht4] at hod4
      (focus (refine WP_seq ?_; refine Wr ?_; refine Sm rfl ?_; refine Sf rfl rfl rfl rfl rfl (fld rfl rfl) ?_; refine S_load rfl rfl rfl rfl rfl ?_; refine L_fld (Rd.own m0) (ty rfl) rfl ?_; refine S_q rfl rfl rfl (Q_len rfl rfl rfl rfl rfl rfl) ?_; refine Sc rfl rfl rfl rfl rfl rfl rfl ?_; refine On ?_; refine WP_cond rfl (fun c10_1 => ?_) (fun c10_1 => ?_) <;> (first | (simp [*] at c10_1; done) | (try simp at c10_1)); refine WP_skip ?_; refine then_n ?_; refine WP_seq ?_; refine WP_block ?_; refine Wr ?_; refine Sf rfl rfl rfl rfl rfl (fld rfl rfl) ?_; refine S_load rfl rfl rfl rfl rfl ?_; refine L_fld (Rd.own m0) (ty rfl) rfl ?_; refine Sm rfl ?_; refine S_q rfl rfl rfl (Q_indexS ‹_› ‹_› rfl rfl rfl (elm rfl) rfl) ?_; refine Sf rfl rfl rfl rfl rfl (fld rfl rfl) ?_; refine S_load rfl rfl rfl rfl rfl ?_; refine L_elF ‹_› ‹_› ?_; rintro _ _ _ ⟨xa10_2, xb10_2, xc10_2, xd10_2, xe10_2, pa10_2, qa10_2, pf10_2, qf10_2, pm10_2, qm10_2, xw10_2, y110_2, y210_2, y310_2, y410_2, y510_2, y610_2, y710_2, y810_2, y910_2, y1010_2, y1110_2, y1210_2, y1310_2, y1410_2, y1510_2, rfl, ha10_2, hf10_2, hm10_2⟩; refine LV_a (ty rfl) rfl ?_; refine S_c rfl rfl rfl (C_alloc rfl (zer rfl) ?_); intro b10_3; refine S_w0 rfl rfl (W_all rfl rfl rfl (ty rfl) u0 (by first | rfl | assumption) (by first | rfl | assumption) (by first | rfl | assumption | exact ones_sub ‹_› _ _) ?_); refine On ?_; refine WP_seq ?_; refine Wr ?_; refine Sf rfl rfl rfl rfl rfl (fld rfl rfl) ?_; refine Sf rfl rfl rfl rfl rfl (fld rfl rfl) ?_; refine S_load rfl rfl rfl rfl rfl ?_; refine L_fld2 (Rd.own m0) ?_; refine LV_1 (ty rfl) rfl ?_; refine S_q rfl rfl rfl (Q_len rfl rfl rfl rfl rfl rfl) ?_; refine Sc rfl rfl rfl rfl rfl rfl rfl ?_; refine Sm rfl ?_; refine S_gsplit rfl rfl rfl rfl (fun c10_4 => ?_) (fun c10_4 => ?_) <;> (first | (simp [*] at c10_4; done) | (try simp at c10_4)); (focus (refine Sn rfl ?_; refine Sn rfl ?_; refine Sn rfl ?_; refine Sn rfl ?_; refine Sn rfl ?_; refine S_q rfl rfl rfl (Q_pick_t rfl rfl rfl) ?_; refine Sm rfl ?_; refine Sn rfl ?_; refine Sn rfl ?_; refine Sn rfl ?_; refine Sn rfl ?_; refine Sn rfl ?_; refine S_q rfl rfl rfl (Q_pick_t rfl rfl rfl) ?_; refine On ?_; refine cond_t rfl ?_; refine Wr ?_; refine Sm rfl ?_; refine On ?_; refine WP_ret ?_; refine then_r ?_; refine block_r ?_; refine then_r ?_; refine roundF_r ?_; refine block_r ?_; refine block_r ?_; refine then_r ?_; refine roundF_r ?_; refine block_r ?_; refine then_r ?_)); rotate_left 1; (focus (refine S_gq rfl rfl rfl rfl rfl rfl (Q_fieldAddr rfl rfl (fld rfl rfl)) ?_; refine S_gq rfl rfl rfl rfl rfl rfl (Q_fieldAddr rfl rfl (fld rfl rfl)) ?_; refine S_gload rfl rfl rfl rfl rfl rfl rfl rfl ?_; refine L_fld2 (Rd.own m0) ?_; refine LV_1 (ty rfl) rfl ?_; refine S_gq rfl rfl rfl rfl rfl rfl (Q_len rfl rfl rfl rfl rfl rfl) ?_; refine S_gq rfl rfl rfl rfl rfl rfl (Q_cmp rfl rfl rfl rfl) ?_; refine S_q rfl rfl rfl (Q_pick_f rfl rfl rfl) ?_; refine Sm rfl ?_; refine S_gsplit rfl rfl rfl rfl (fun c10_5 => ?_) (fun c10_5 => ?_) <;> (first | (simp [*] at c10_5; done) | (try simp at c10_5)); (focus (refine Sn rfl ?_; refine Sn rfl ?_; refine Sn rfl ?_; refine Sn rfl ?_; refine Sn rfl ?_; refine S_q rfl rfl rfl (Q_pick_t rfl rfl rfl) ?_; refine On ?_; refine cond_t rfl ?_; refine Wr ?_; refine Sm rfl ?_; refine On ?_; refine WP_ret ?_; refine then_r ?_; refine block_r ?_; refine then_r ?_; refine roundF_r ?_; refine block_r ?_; refine block_r ?_; refine then_r ?_; refine roundF_r ?_; refine block_r ?_; refine then_r ?_)); rotate_left 1; (focus (refine S_gq rfl rfl rfl rfl rfl rfl (Q_fieldAddr rfl rfl (fld rfl rfl)) ?_; refine S_gq rfl rfl rfl rfl rfl rfl (Q_fieldAddr rfl rfl (fld rfl rfl)) ?_; refine S_gload rfl rfl rfl rfl rfl rfl rfl rfl ?_; refine L_fld2 (Rd.own m0) ?_; refine LV_1 (ty rfl) rfl ?_; refine S_gq rfl rfl rfl rfl rfl rfl (Q_len rfl rfl rfl rfl rfl rfl) ?_; refine S_gq rfl rfl rfl rfl rfl rfl (Q_cmp rfl rfl rfl rfl) ?_; refine S_q rfl rfl rfl (Q_pick_f rfl rfl rfl) ?_; refine On ?_; refine WP_cond rfl (fun c10_6 => ?_) (fun c10_6 => ?_) <;> (first | (simp [*] at c10_6; done) | (try simp at c10_6)); (focus (refine Wr ?_; refine Sm rfl ?_; refine On ?_; refine WP_ret ?_; refine then_r ?_; refine block_r ?_; refine then_r ?_; refine roundF_r ?_; refine block_r ?_; refine block_r ?_; refine then_r ?_; refine roundF_r ?_; refine block_r ?_; refine then_r ?_)); rotate_left 1; (focus (refine WP_skip ?_; refine then_n ?_; refine Wr ?_; refine Sm rfl ?_; refine On ?_; refine WP_block ?_)); rotate_left 1)); rotate_left 2)); rotate_left 3))
      iterate 3
        · refine pret (.inl rfl) rfl ⟨_, _, rfl, rfl, rfl⟩ ?_
          refine congrArg Value.bool (few_false (List.mem_of_getElem? ev) (fl_false ?_)).symm
          rw [hod4, msg_false (by omega)]; rfl
      (refine WP_loopC (α := Nat) [8, 7, 4, 3, 0] (fun (i : Nat) => x.msg.parcel.mail.length - i) (fun (i : Nat) => [(9, .int .i64 i)]) (fun hh (i : Nat) => hh = h4 ∧ i ≤ x.msg.parcel.mail.length ∧ (x.msg.parcel.mail.drop i).all (fun l => decide (l.length ≤ 6)) = x.msg.parcel.mail.all (fun l => decide (l.length ≤ 6))) 0 ⟨_, _, rfl, ⟨_, _, rfl, ⟨_, _, rfl, ⟨_, _, rfl, ⟨_, _, rfl, rfl, rfl⟩, rfl⟩, rfl⟩, rfl⟩, rfl⟩ (by repeat' first | exact trivial | refine ⟨rfl, ?_⟩) ?_ ?_)
      · exact ⟨rfl, Nat.zero_le _, rfl⟩
      rintro h5 i _ ⟨rfl, hi, ht5⟩
      by_cases hlt5 : i < x.msg.parcel.mail.length
      · obtain ⟨l, el⟩ := get_of hlt5
        have hod5 := all_drop (p := fun l : List Ref => decide (l.length ≤ 6)) el
        rw [ht5] at hod5
        (focus (refine WP_seq ?_; refine Wr ?_; refine Sm rfl ?_; refine Sf rfl rfl rfl rfl rfl (fld rfl rfl) ?_; refine Sf rfl rfl rfl rfl rfl (fld rfl rfl) ?_; refine S_load rfl rfl rfl rfl rfl ?_; refine L_fld2 (Rd.own m0) ?_; refine LV_1 (ty rfl) rfl ?_; refine S_q rfl rfl rfl (Q_len rfl rfl rfl rfl rfl rfl) ?_; refine Sc rfl rfl rfl rfl rfl rfl rfl ?_; refine On ?_; refine WP_cond rfl (fun c12_1 => ?_) (fun c12_1 => ?_) <;> (first | (simp [*] at c12_1; done) | (try simp at c12_1)); refine WP_skip ?_; refine then_n ?_; refine WP_seq ?_; refine WP_block ?_; refine Wr ?_; refine Sf rfl rfl rfl rfl rfl (fld rfl rfl) ?_; refine Sf rfl rfl rfl rfl rfl (fld rfl rfl) ?_; refine S_load rfl rfl rfl rfl rfl ?_; refine L_fld2 (Rd.own m0) ?_; refine LV_1 (ty rfl) rfl ?_; refine Sm rfl ?_; refine S_q rfl rfl rfl (Q_indexS ‹_› ‹_› rfl rfl rfl (elm rfl) rfl) ?_; refine Sf rfl rfl rfl rfl rfl (fld rfl rfl) ?_; refine S_load rfl rfl rfl rfl rfl ?_; refine L_elF ‹_› ‹_› ?_; rintro _ _ _ ⟨xa12_2, xb12_2, xm12_2, pl12_2, ql12_2, rfl, fl12_2⟩; refine LV_1 (ty rfl) rfl ?_; refine S_q rfl rfl rfl (Q_len rfl rfl rfl rfl rfl rfl) ?_; refine Sc rfl rfl rfl rfl rfl rfl rfl ?_; refine On ?_; refine WP_cond rfl (fun c12_3 => ?_) (fun c12_3 => ?_) <;> (first | (simp [*] at c12_3; done) | (try simp at c12_3)); (focus (refine Wr ?_; refine Sm rfl ?_; refine On ?_; refine WP_ret ?_; refine block_r ?_; refine then_r ?_; refine roundF_r ?_; refine block_r ?_; refine block_r ?_; refine then_r ?_; refine roundF_r ?_; refine block_r ?_; refine block_r ?_; refine then_r ?_; refine roundF_r ?_; refine block_r ?_; refine then_r ?_)); rotate_left 1; (focus (refine WP_skip ?_; refine block_n ?_; refine then_n ?_; refine R_region ?_; refine Sm rfl ?_; refine S_q rfl rfl rfl (Q_add rfl rfl rfl (by omega)) ?_; refine Sm rfl ?_; refine OPS_nil ?_)); rotate_left 1))
        · refine pret (.inl rfl) rfl ⟨_, _, rfl, rfl, rfl⟩ ?_
          refine congrArg Value.bool (few_false (List.mem_of_getElem? ev) (fl_false ?_)).symm
          rw [hod4, msgm_false (by rw [hod5, decide_eq_false (by omega)]; rfl)]; rfl
        · refine roundF_n (i + 1) (by omega) ⟨rfl, by omega, ?_⟩ (by repeat' first | exact sR _ | exact sA _ _ | exact sN _ | apply s2 | apply s1) (by repeat' first | exact trivial | refine ⟨rfl, ?_⟩)
          rw [hod5, decide_eq_true (by omega)]; rfl
      · have hge : i = x.msg.parcel.mail.length := by omega
        subst hge
        rw [List.drop_length] at ht5
        (focus (refine WP_seq ?_; refine Wr ?_; refine Sm rfl ?_; refine Sf rfl rfl rfl rfl rfl (fld rfl rfl) ?_; refine Sf rfl rfl rfl rfl rfl (fld rfl rfl) ?_; refine S_load rfl rfl rfl rfl rfl ?_; refine L_fld2 (Rd.own m0) ?_; refine LV_1 (ty rfl) rfl ?_; refine S_q rfl rfl rfl (Q_len rfl rfl rfl rfl rfl rfl) ?_; refine Sc rfl rfl rfl rfl rfl rfl rfl ?_; refine On ?_; refine WP_cond rfl (fun c13_1 => ?_) (fun c13_1 => ?_) <;> (first | (simp [*] at c13_1; done) | (try simp at c13_1)); refine WP_exit ?_; refine then_e ?_; refine roundF_e ?_; refine block_e ?_; refine block_n ?_; refine then_n ?_; refine R_region ?_; refine Sm rfl ?_; refine S_q rfl rfl rfl (Q_add rfl rfl rfl (by omega)) ?_; refine Sm rfl ?_; refine OPS_nil ?_))
        refine roundF_n (j + 1) (by omega) ⟨rfl, by omega, ?_⟩ (by repeat' first | exact sR _ | exact sA _ _ | exact sN _ | apply s2 | apply s1) (by repeat' first | exact trivial | refine ⟨rfl, ?_⟩)
        rw [hod4, msg_true (by omega) ht5.symm]; rfl
    have hge : j = v.flights.length := by omega
    subst hge
    rw [List.drop_length] at ht4
    (focus (refine WP_seq ?_; refine Wr ?_; refine Sm rfl ?_; refine Sf rfl rfl rfl rfl rfl (fld rfl rfl) ?_; refine S_load rfl rfl rfl rfl rfl ?_; refine L_fld (Rd.own m0) (ty rfl) rfl ?_; refine S_q rfl rfl rfl (Q_len rfl rfl rfl rfl rfl rfl) ?_; refine Sc rfl rfl rfl rfl rfl rfl rfl ?_; refine On ?_; refine WP_cond rfl (fun c14_1 => ?_) (fun c14_1 => ?_) <;> (first | (simp [*] at c14_1; done) | (try simp at c14_1)); refine WP_exit ?_; refine then_e ?_; refine roundF_e ?_; refine block_e ?_; refine block_n ?_; refine then_n ?_; refine R_region ?_; refine Sm rfl ?_; refine S_q rfl rfl rfl (Q_add rfl rfl rfl (by omega)) ?_; refine Sm rfl ?_; refine OPS_nil ?_))
    refine roundF_n (k + 1) (by omega) ⟨rfl, by omega, ?_⟩ (by repeat' first | exact sR _ | exact sA _ _ | exact sN _ | apply s2 | apply s1) (by repeat' first | exact trivial | refine ⟨rfl, ?_⟩)
    rw [hod, small_true (by omega) ht2.symm ht3.symm ht4.symm]; rfl
  · have hge : k = vs.length := by omega
    subst hge
    rw [List.drop_length] at ht
    (focus (refine WP_seq ?_; refine Wr ?_; refine Sm rfl ?_; refine Sm rfl ?_; refine S_q rfl rfl rfl (Q_len rfl rfl rfl rfl rfl rfl) ?_; refine Sc rfl rfl rfl rfl rfl rfl rfl ?_; refine On ?_; refine WP_cond rfl (fun c15_1 => ?_) (fun c15_1 => ?_) <;> (first | (simp [*] at c15_1; done) | (try simp at c15_1)); refine WP_exit ?_; refine then_e ?_; refine roundF_e ?_; refine block_e ?_; refine then_n ?_; refine Wr ?_; refine Sm rfl ?_; refine S_q rfl rfl rfl (Q_len rfl rfl rfl rfl rfl rfl) ?_; refine Sc rfl rfl rfl rfl rfl rfl rfl ?_; refine Sm rfl ?_; refine On ?_; refine WP_ret ?_))
    refine pret (.inl rfl) rfl ⟨_, _, rfl, rfl, rfl⟩ ?_
    simp only [resOf, fewB, ← ht, List.all_nil, Bool.true_and]
    exact congrArg Value.bool (decide_eq_decide.2 (by omega))
end Go.Proofs.YtfhoecgiahpddaaGreat
/-
  CONTRACTS: the reference's comparisons and searches (refmeshref16, 21, 55).
-/
set_option linter.all false
namespace Go.Proofs.YtfhoecgiahpddaaGreat
open Go.Mesh Go.RowKit
set_option maxRecDepth 100000
set_option linter.unusedVariables false
set_option maxHeartbeats 4000000
attribute [local irreducible] WP OPS ANY ANYo LG LV FSpec PSpec QOP OPc OPw thenQ blockQ roundQ roundF retQ retM Rd At SLB OS cmpI orI cmpID namedB valB nodeB kindB validG valAux idxI findG zeroV viewOf vwAt idxOf recv flyB scionOf moveOf numberedOf idOf valueOf mget mput localB carriedB msgB sizesB smallV fewB
theorem ints_s {h : Frag} {a b : Value} {xs ys : List Int} (hx : SL h 1 IntC a xs) (hy : SL h 1 IntC b ys) : PSpec Tryz.prog 32 #[a, b] h (fun _ v => v = .bool (decide (xs = ys))) := by
  have hxl := hx.le
  have hyl := hy.le
  refine pspec_of (vs := [a, b]) Tryz.func32 Tryz.ntmps32 rfl rfl ?_
  (focus (refine Wr ?_; refine Sm rfl ?_; refine On ?_; refine WP_seq ?_; refine Wr ?_; refine Sm rfl ?_; refine S_q rfl rfl rfl (Q_lenS rfl rfl rfl rfl rfl rfl ‹_›) ?_; refine Sm rfl ?_; refine S_q rfl rfl rfl (Q_lenS rfl rfl rfl rfl rfl rfl ‹_›) ?_; refine Sc rfl rfl rfl rfl rfl rfl rfl ?_; refine On ?_; refine WP_cond rfl (fun c0_1 => ?_) (fun c0_1 => ?_) <;> (first | (simp [*] at c0_1; done) | (try simp at c0_1)); (focus (refine Wr ?_; refine Sm rfl ?_; refine On ?_; refine WP_ret ?_; refine then_r ?_)); rotate_left 1; (focus (refine WP_skip ?_; refine then_n ?_; refine WP_seq ?_; refine Wr ?_; refine Sm rfl ?_; refine On ?_; refine WP_block ?_)); rotate_left 1))
  · have : xs ≠ ys := fun e => by rw [e] at c0_1; simp at c0_1
    refine pret (.inl rfl) rfl ⟨_, _, rfl, rfl, rfl⟩ ?_
    simp [resOf, this]
  have hlen : xs.length = ys.length := by omega
  (refine WP_loopC (α := Nat) [0, 1] (fun (k : Nat) => xs.length - k) (fun (k : Nat) => [(5, .int .i64 k)]) (fun hh (k : Nat) => hh = h ∧ k ≤ xs.length ∧ xs.take k = ys.take k) 0 ⟨_, _, rfl, ⟨_, _, rfl, rfl, rfl⟩, rfl⟩ (by repeat' first | exact trivial | refine ⟨rfl, ?_⟩) ?_ ?_)
  · exact ⟨rfl, Nat.zero_le _, rfl⟩
  rintro h1 k _ ⟨rfl, hk, ht⟩
  by_cases hlt : k < xs.length
  · obtain ⟨x, ex⟩ := get_of hlt
    obtain ⟨y, ey⟩ := get_of (xs := ys) (k := k) (by omega)
    (focus (refine WP_seq ?_; refine Wr ?_; refine Sm rfl ?_; refine Sm rfl ?_; refine S_q rfl rfl rfl (Q_lenS rfl rfl rfl rfl rfl rfl ‹_›) ?_; refine Sc rfl rfl rfl rfl rfl rfl rfl ?_; refine On ?_; refine WP_cond rfl (fun c2_1 => ?_) (fun c2_1 => ?_) <;> (first | (simp [*] at c2_1; done) | (try simp at c2_1)); (focus (refine WP_skip ?_; refine then_n ?_; refine WP_seq ?_; refine WP_block ?_; refine WP_seq ?_; refine R_draw (n := 9) mixed rfl ?_; refine A_at 0 rfl rfl ?_; refine A_q (m' := 1) rfl rfl rfl (Q_move rfl rfl) rfl (by decide +kernel) ?_; refine A_at 1 rfl rfl ?_; refine A_q (m' := 3) rfl rfl rfl (Q_move rfl rfl) rfl (by decide +kernel) ?_; refine A_at 2 rfl rfl ?_; refine A_q (m' := 7) rfl rfl rfl (Q_indexS ‹_› ‹_› rfl rfl rfl (elm rfl) rfl) rfl (by decide +kernel) ?_; refine A_at 3 rfl rfl ?_; refine A_load (m' := 15) rfl rfl rfl rfl rfl rfl (by decide +kernel) ?_; refine L_el1 ‹_› ‹_› (ty rfl) ?_; rintro _ ⟨⟩; refine A_at 4 rfl rfl ?_; refine A_q (m' := 31) rfl rfl rfl (Q_move rfl rfl) rfl (by decide +kernel) ?_; refine A_at 5 rfl rfl ?_; refine A_q (m' := 63) rfl rfl rfl (Q_move rfl rfl) rfl (by decide +kernel) ?_; refine A_at 6 rfl rfl ?_; refine A_q (m' := 127) rfl rfl rfl (Q_indexS ‹_› ‹_› rfl rfl rfl (elm rfl) rfl) rfl (by decide +kernel) ?_; refine A_at 7 rfl rfl ?_; refine A_load (m' := 255) rfl rfl rfl rfl rfl rfl (by decide +kernel) ?_; refine L_el1 ‹_› ‹_› (ty rfl) ?_; rintro _ ⟨⟩; refine A_at 8 rfl rfl ?_; refine A_q (m' := 511) rfl rfl rfl (Q_cmp rfl rfl rfl rfl) rfl (by decide +kernel) ?_; refine A_done (by decide +kernel) ?_; refine then_n ?_; refine WP_cond rfl (fun c2_4 => ?_) (fun c2_4 => ?_) <;> (first | (simp [*] at c2_4; done) | (try simp at c2_4)); (focus (refine Wr ?_; refine Sm rfl ?_; refine On ?_; refine WP_ret ?_; refine block_r ?_; refine then_r ?_; refine roundF_r ?_; refine block_r ?_; refine then_r ?_)); rotate_left 1; (focus (refine WP_skip ?_; refine block_n ?_; refine then_n ?_; refine R_region ?_; refine Sm rfl ?_; refine S_q rfl rfl rfl (Q_add rfl rfl rfl (by omega)) ?_; refine Sm rfl ?_; refine OPS_nil ?_)); rotate_left 1)); rotate_left 2; (focus (exfalso; omega))))
    · refine pret (.inl rfl) rfl ⟨_, _, rfl, rfl, rfl⟩ ?_
      have : xs ≠ ys := fun e => by subst e; rw [ex] at ey; cases ey; simp_all
      simp [resOf, this]
    · refine roundF_n (k + 1) (by omega) ⟨rfl, by omega, take_eq (x := x) ht ex ?_⟩ (List.Sublist.refl _) (by repeat' first | exact trivial | refine ⟨rfl, ?_⟩)
      rw [ey]; simp_all
  · have hge : k = xs.length := by omega
    subst hge
    (focus (refine WP_seq ?_; refine Wr ?_; refine Sm rfl ?_; refine Sm rfl ?_; refine S_q rfl rfl rfl (Q_lenS rfl rfl rfl rfl rfl rfl ‹_›) ?_; refine Sc rfl rfl rfl rfl rfl rfl rfl ?_; refine On ?_; refine WP_cond rfl (fun c3_1 => ?_) (fun c3_1 => ?_) <;> (first | (simp [*] at c3_1; done) | (try simp at c3_1)); refine WP_exit ?_; refine then_e ?_; refine roundF_e ?_; refine block_e ?_; refine then_n ?_; refine Wr ?_; refine Sm rfl ?_; refine On ?_; refine WP_ret ?_))
    · refine pret (.inl rfl) rfl ⟨_, _, rfl, rfl, rfl⟩ ?_
      have : xs = ys := by rw [List.take_of_length_le (Nat.le_refl _), List.take_of_length_le (by omega)] at ht; exact ht
      simp [resOf, this]
theorem sameIDs_s {h : Frag} {a b : Value} {xs ys : List ID} (hx : SL h 2 IDC a xs) (hy : SL h 2 IDC b ys) : PSpec Tryz.prog 18 #[a, b] h (fun _ v => v = .bool (decide (xs = ys))) := by
  have hxl := hx.le
  have hyl := hy.le
  refine pspec_of (vs := [a, b]) Tryz.func18 Tryz.ntmps18 rfl rfl ?_
  (focus (refine Wr ?_; refine Sm rfl ?_; refine On ?_; refine WP_seq ?_; refine Wr ?_; refine Sm rfl ?_; refine S_q rfl rfl rfl (Q_lenS rfl rfl rfl rfl rfl rfl ‹_›) ?_; refine Sm rfl ?_; refine S_q rfl rfl rfl (Q_lenS rfl rfl rfl rfl rfl rfl ‹_›) ?_; refine Sc rfl rfl rfl rfl rfl rfl rfl ?_; refine On ?_; refine WP_cond rfl (fun c0_1 => ?_) (fun c0_1 => ?_) <;> (first | (simp [*] at c0_1; done) | (try simp at c0_1)); (focus (refine Wr ?_; refine Sm rfl ?_; refine On ?_; refine WP_ret ?_; refine then_r ?_)); rotate_left 1; (focus (refine WP_skip ?_; refine then_n ?_; refine WP_seq ?_; refine Wr ?_; refine Sm rfl ?_; refine On ?_; refine WP_block ?_)); rotate_left 1))
  · have : xs ≠ ys := fun e => by rw [e] at c0_1; simp at c0_1
    refine pret (.inl rfl) rfl ⟨_, _, rfl, rfl, rfl⟩ ?_
    simp [resOf, this]
  have hlen : xs.length = ys.length := by omega
  (refine WP_loopC (α := Nat) [0, 1] (fun (k : Nat) => xs.length - k) (fun (k : Nat) => [(5, .int .i64 k)]) (fun hh (k : Nat) => hh = h ∧ k ≤ xs.length ∧ xs.take k = ys.take k) 0 ⟨_, _, rfl, ⟨_, _, rfl, rfl, rfl⟩, rfl⟩ (by repeat' first | exact trivial | refine ⟨rfl, ?_⟩) ?_ ?_)
  · exact ⟨rfl, Nat.zero_le _, rfl⟩
  rintro h1 k _ ⟨rfl, hk, ht⟩
  by_cases hlt : k < xs.length
  · obtain ⟨⟨x1, x2⟩, ex⟩ := get_of hlt
    obtain ⟨⟨y1, y2⟩, ey⟩ := get_of (xs := ys) (k := k) (by omega)
    (focus (refine WP_seq ?_; refine Wr ?_; refine Sm rfl ?_; refine Sm rfl ?_; refine S_q rfl rfl rfl (Q_lenS rfl rfl rfl rfl rfl rfl ‹_›) ?_; refine Sc rfl rfl rfl rfl rfl rfl rfl ?_; refine On ?_; refine WP_cond rfl (fun c2_1 => ?_) (fun c2_1 => ?_) <;> (first | (simp [*] at c2_1; done) | (try simp at c2_1)); (focus (refine WP_skip ?_; refine then_n ?_; refine WP_seq ?_; refine WP_block ?_; refine WP_seq ?_; refine R_draw (n := 9) mixed rfl ?_; refine A_at 0 rfl rfl ?_; refine A_q (m' := 1) rfl rfl rfl (Q_move rfl rfl) rfl (by decide +kernel) ?_; refine A_at 1 rfl rfl ?_; refine A_q (m' := 3) rfl rfl rfl (Q_move rfl rfl) rfl (by decide +kernel) ?_; refine A_at 2 rfl rfl ?_; refine A_q (m' := 7) rfl rfl rfl (Q_indexS ‹_› ‹_› rfl rfl rfl (elm rfl) rfl) rfl (by decide +kernel) ?_; refine A_at 3 rfl rfl ?_; refine A_load (m' := 15) rfl rfl rfl rfl rfl rfl (by decide +kernel) ?_; refine L_elA ‹_› ‹_› (ty rfl) ?_; rintro _ _ _ rfl; refine A_at 4 rfl rfl ?_; refine A_q (m' := 31) rfl rfl rfl (Q_move rfl rfl) rfl (by decide +kernel) ?_; refine A_at 5 rfl rfl ?_; refine A_q (m' := 63) rfl rfl rfl (Q_move rfl rfl) rfl (by decide +kernel) ?_; refine A_at 6 rfl rfl ?_; refine A_q (m' := 127) rfl rfl rfl (Q_indexS ‹_› ‹_› rfl rfl rfl (elm rfl) rfl) rfl (by decide +kernel) ?_; refine A_at 7 rfl rfl ?_; refine A_load (m' := 255) rfl rfl rfl rfl rfl rfl (by decide +kernel) ?_; refine L_elA ‹_› ‹_› (ty rfl) ?_; rintro _ _ _ rfl; refine A_at 8 rfl rfl ?_; refine A_q (m' := 511) rfl rfl rfl (Q_neI eqID rfl rfl rfl rfl rfl) rfl (by decide +kernel) ?_; refine A_done (by decide +kernel) ?_; refine then_n ?_; refine WP_cond rfl (fun c2_4 => ?_) (fun c2_4 => ?_) <;> (first | (simp [*] at c2_4; done) | (try simp at c2_4)); (focus (refine Wr ?_; refine Sm rfl ?_; refine On ?_; refine WP_ret ?_; refine block_r ?_; refine then_r ?_; refine roundF_r ?_; refine block_r ?_; refine then_r ?_)); rotate_left 1; (focus (refine WP_skip ?_; refine block_n ?_; refine then_n ?_; refine R_region ?_; refine Sm rfl ?_; refine S_q rfl rfl rfl (Q_add rfl rfl rfl (by omega)) ?_; refine Sm rfl ?_; refine OPS_nil ?_)); rotate_left 1)); rotate_left 2; (focus (exfalso; omega))))
    · refine pret (.inl rfl) rfl ⟨_, _, rfl, rfl, rfl⟩ ?_
      have : xs ≠ ys := fun e => by subst e; rw [ex] at ey; cases ey; simp_all
      simp [resOf, this]
    · refine roundF_n (k + 1) (by omega) ⟨rfl, by omega, take_eq (x := (x1, x2)) ht ex ?_⟩ (List.Sublist.refl _) (by repeat' first | exact trivial | refine ⟨rfl, ?_⟩)
      rw [ey]; simp_all
  · have hge : k = xs.length := by omega
    subst hge
    (focus (refine WP_seq ?_; refine Wr ?_; refine Sm rfl ?_; refine Sm rfl ?_; refine S_q rfl rfl rfl (Q_lenS rfl rfl rfl rfl rfl rfl ‹_›) ?_; refine Sc rfl rfl rfl rfl rfl rfl rfl ?_; refine On ?_; refine WP_cond rfl (fun c3_1 => ?_) (fun c3_1 => ?_) <;> (first | (simp [*] at c3_1; done) | (try simp at c3_1)); refine WP_exit ?_; refine then_e ?_; refine roundF_e ?_; refine block_e ?_; refine then_n ?_; refine Wr ?_; refine Sm rfl ?_; refine On ?_; refine WP_ret ?_))
    · refine pret (.inl rfl) rfl ⟨_, _, rfl, rfl, rfl⟩ ?_
      have : xs = ys := by rw [List.take_of_length_le (Nat.le_refl _), List.take_of_length_le (by omega)] at ht; exact ht
      simp [resOf, this]
theorem eqIDs_s {h : Frag} {a b : Value} {xs ys : List ID} (hx : SL h 2 IDC a xs) (hy : SL h 2 IDC b ys) : PSpec Tryz.prog 71 #[a, b] h (fun _ v => v = .bool (decide (xs = ys))) := by
  have hxl := hx.le
  have hyl := hy.le
  refine pspec_of (vs := [a, b]) Tryz.func71 Tryz.ntmps71 rfl rfl ?_
  (focus (refine Wr ?_; refine Sm rfl ?_; refine On ?_; refine WP_seq ?_; refine Wr ?_; refine Sm rfl ?_; refine S_q rfl rfl rfl (Q_lenS rfl rfl rfl rfl rfl rfl ‹_›) ?_; refine Sm rfl ?_; refine S_q rfl rfl rfl (Q_lenS rfl rfl rfl rfl rfl rfl ‹_›) ?_; refine Sc rfl rfl rfl rfl rfl rfl rfl ?_; refine On ?_; refine WP_cond rfl (fun c0_1 => ?_) (fun c0_1 => ?_) <;> (first | (simp [*] at c0_1; done) | (try simp at c0_1)); (focus (refine Wr ?_; refine Sm rfl ?_; refine On ?_; refine WP_ret ?_; refine then_r ?_)); rotate_left 1; (focus (refine WP_skip ?_; refine then_n ?_; refine WP_seq ?_; refine Wr ?_; refine Sm rfl ?_; refine S_q rfl rfl rfl (Q_lenS rfl rfl rfl rfl rfl rfl ‹_›) ?_; refine Sm rfl ?_; refine On ?_; refine WP_block ?_)); rotate_left 1))
  · have : xs ≠ ys := fun e => by rw [e] at c0_1; simp at c0_1
    refine pret (.inl rfl) rfl ⟨_, _, rfl, rfl, rfl⟩ ?_
    simp [resOf, this]
  have hlen : xs.length = ys.length := by omega
  (refine WP_loopC (α := Nat) [12, 0, 1] (fun (k : Nat) => xs.length - k) (fun (k : Nat) => [(13, .int .i64 k)]) (fun hh (k : Nat) => hh = h ∧ k ≤ xs.length ∧ xs.take k = ys.take k) 0 ⟨_, _, rfl, ⟨_, _, rfl, ⟨_, _, rfl, rfl, rfl⟩, rfl⟩, rfl⟩ (by repeat' first | exact trivial | refine ⟨rfl, ?_⟩) ?_ ?_)
  · exact ⟨rfl, Nat.zero_le _, rfl⟩
  rintro h1 k _ ⟨rfl, hk, ht⟩
  by_cases hlt : k < xs.length
  · obtain ⟨⟨x1, x2⟩, ex⟩ := get_of hlt
    obtain ⟨⟨y1, y2⟩, ey⟩ := get_of (xs := ys) (k := k) (by omega)
    (focus (refine Wr ?_; refine Sc rfl rfl rfl rfl rfl rfl rfl ?_; refine On ?_; refine WP_seq ?_; refine WP_cond rfl (fun c2_1 => ?_) (fun c2_1 => ?_) <;> (first | (simp [*] at c2_1; done) | (try simp at c2_1)); (focus (refine WP_skip ?_; refine then_n ?_; refine WP_seq ?_; refine WP_block ?_; refine Wr ?_; refine Sm rfl ?_; refine Sm rfl ?_; refine On ?_; refine WP_seq ?_; refine R_draw (n := 9) mixed rfl ?_; refine A_at 0 rfl rfl ?_; refine A_q (m' := 1) rfl rfl rfl (Q_move rfl rfl) rfl (by decide +kernel) ?_; refine A_at 1 rfl rfl ?_; refine A_q (m' := 3) rfl rfl rfl (Q_move rfl rfl) rfl (by decide +kernel) ?_; refine A_at 2 rfl rfl ?_; refine A_q (m' := 7) rfl rfl rfl (Q_indexS ‹_› ‹_› rfl rfl rfl (elm rfl) rfl) rfl (by decide +kernel) ?_; refine A_at 3 rfl rfl ?_; refine A_load (m' := 15) rfl rfl rfl rfl rfl rfl (by decide +kernel) ?_; refine L_elA ‹_› ‹_› (ty rfl) ?_; rintro _ _ _ rfl; refine A_at 4 rfl rfl ?_; refine A_q (m' := 31) rfl rfl rfl (Q_move rfl rfl) rfl (by decide +kernel) ?_; refine A_at 5 rfl rfl ?_; refine A_q (m' := 63) rfl rfl rfl (Q_move rfl rfl) rfl (by decide +kernel) ?_; refine A_at 6 rfl rfl ?_; refine A_q (m' := 127) rfl rfl rfl (Q_indexS ‹_› ‹_› rfl rfl rfl (elm rfl) rfl) rfl (by decide +kernel) ?_; refine A_at 7 rfl rfl ?_; refine A_load (m' := 255) rfl rfl rfl rfl rfl rfl (by decide +kernel) ?_; refine L_elA ‹_› ‹_› (ty rfl) ?_; rintro _ _ _ rfl; refine A_at 8 rfl rfl ?_; refine A_q (m' := 511) rfl rfl rfl (Q_neI eqID rfl rfl rfl rfl rfl) rfl (by decide +kernel) ?_; refine A_done (by decide +kernel) ?_; refine then_n ?_; refine WP_cond rfl (fun c2_4 => ?_) (fun c2_4 => ?_) <;> (first | (simp [*] at c2_4; done) | (try simp at c2_4)); (focus (refine Wr ?_; refine Sm rfl ?_; refine On ?_; refine WP_ret ?_; refine block_r ?_; refine then_r ?_; refine roundF_r ?_; refine block_r ?_; refine then_r ?_)); rotate_left 1; (focus (refine WP_skip ?_; refine block_n ?_; refine then_n ?_; refine R_region ?_; refine S_q rfl rfl rfl (Q_add rfl rfl rfl (by omega)) ?_; refine Sm rfl ?_; refine OPS_nil ?_)); rotate_left 1)); rotate_left 2; (focus (exfalso; omega))))
    · refine pret (.inl rfl) rfl ⟨_, _, rfl, rfl, rfl⟩ ?_
      have : xs ≠ ys := fun e => by subst e; rw [ex] at ey; cases ey; simp_all
      simp [resOf, this]
    · refine roundF_n (k + 1) (by omega) ⟨rfl, by omega, take_eq (x := (x1, x2)) ht ex ?_⟩ (List.Sublist.refl _) (by repeat' first | exact trivial | refine ⟨rfl, ?_⟩)
      rw [ey]; simp_all
  · have hge : k = xs.length := by omega
    subst hge
    (focus (refine Wr ?_; refine Sc rfl rfl rfl rfl rfl rfl rfl ?_; refine On ?_; refine WP_seq ?_; refine WP_cond rfl (fun c3_1 => ?_) (fun c3_1 => ?_) <;> (first | (simp [*] at c3_1; done) | (try simp at c3_1)); refine WP_exit ?_; refine then_e ?_; refine roundF_e ?_; refine block_e ?_; refine then_n ?_; refine Wr ?_; refine Sm rfl ?_; refine On ?_; refine WP_ret ?_))
    · refine pret (.inl rfl) rfl ⟨_, _, rfl, rfl, rfl⟩ ?_
      have : xs = ys := by rw [List.take_of_length_le (Nat.le_refl _), List.take_of_length_le (by omega)] at ht; exact ht
      simp [resOf, this]
theorem find_drop {α : Type} {p : α → Bool} {xs : List α} {k : Nat} {x : α} (hx : xs[k]? = some x) : (xs.drop k).find? p = if p x then some x else (xs.drop (k + 1)).find? p := by
  rw [drop_get hx, List.find?_cons]; cases p x <;> rfl
theorem viewOf_def (vs : List View) (m : Int) : viewOf vs m = vs.find? fun v => decide (v.machine = m) := by rw [viewOf]
theorem refView_s {h : Frag} {a : Value} {vs : List View} {m : Int} (hs : SL h 13 (ViewC 4398046511104) a vs) : PSpec Tryz.prog 23 #[a, .int .i64 m] h (fun _ v => ∃ us, v = .tuple #[.agg us.toArray, .bool (viewOf vs m).isSome] ∧ us.length = 13 ∧ ones us = true ∧ ViewC 4398046511104 h (vwAt vs m) us) := by
  have hl := hs.le
  refine pspec_of (vs := [a, .int .i64 m]) Tryz.func23 Tryz.ntmps23 rfl rfl ?_
  (focus (refine Wr ?_; refine S_c rfl rfl rfl (C_alloc rfl (zer rfl) ?_); intro b0_1; refine Sm rfl ?_; refine On ?_; refine WP_seq ?_; refine Wr ?_; refine Sm rfl ?_; refine On ?_; refine WP_block ?_))
  (refine WP_loopC (α := Nat) [4, 0, 1] (fun (k : Nat) => vs.length - k) (fun (k : Nat) => [(6, .int .i64 k)]) (fun hh (k : Nat) => hh = h ∧ k ≤ vs.length ∧ (vs.drop k).find? (fun v => decide (v.machine = m)) = viewOf vs m) 0 ⟨_, _, rfl, ⟨_, _, rfl, ⟨_, _, rfl, rfl, rfl⟩, rfl⟩, rfl⟩ (by repeat' first | exact trivial | refine ⟨rfl, ?_⟩) ?_ ?_)
  · exact ⟨rfl, Nat.zero_le _, by rw [viewOf_def]; rfl⟩
  rintro h1 k _ ⟨rfl, hk, ht⟩
  by_cases hlt : k < vs.length
  · obtain ⟨v, ev⟩ := get_of hlt
    rw [find_drop ev] at ht
    (focus (refine WP_seq ?_; refine Wr ?_; refine Sm rfl ?_; refine Sm rfl ?_; refine S_q rfl rfl rfl (Q_lenS rfl rfl rfl rfl rfl rfl ‹_›) ?_; refine Sc rfl rfl rfl rfl rfl rfl rfl ?_; refine On ?_; refine WP_cond rfl (fun c2_1 => ?_) (fun c2_1 => ?_) <;> (first | (simp [*] at c2_1; done) | (try simp at c2_1)); refine WP_skip ?_; refine then_n ?_; refine WP_seq ?_; refine WP_block ?_; refine Wr ?_; refine Sm rfl ?_; refine Sm rfl ?_; refine S_q rfl rfl rfl (Q_indexS ‹_› ‹_› rfl rfl rfl (elm rfl) rfl) ?_; refine Sf rfl rfl rfl rfl rfl (fld rfl rfl) ?_; refine S_load rfl rfl rfl rfl rfl ?_; refine L_elF ‹_› ‹_› ?_; rintro _ _ _ ⟨xi2_2, xa2_2, po2_2, qo2_2, ps2_2, qs2_2, pc2_2, qc2_2, pn2_2, qn2_2, pm2_2, qm2_2, xw2_2, xv2_2, pf2_2, qf2_2, pr2_2, qr2_2, xe2_2, xf2_2, rfl, vo2_2, vs2_2, vc2_2, vn2_2, vm2_2, vf2_2, vr2_2⟩; refine LV_1 (ty rfl) rfl ?_; refine Sm rfl ?_; refine Sc rfl rfl rfl rfl rfl rfl rfl ?_; refine On ?_; refine WP_cond rfl (fun c2_3 => ?_) (fun c2_3 => ?_) <;> (first | (simp [*] at c2_3; done) | (try simp at c2_3)); (focus (refine Wr ?_; refine Sm rfl ?_; refine Sm rfl ?_; refine S_q rfl rfl rfl (Q_indexS ‹_› ‹_› rfl rfl rfl (elm rfl) rfl) ?_; refine S_load rfl rfl rfl rfl rfl ?_; refine L_elA ‹_› ‹_› (ty rfl) ?_; rintro _ _ _ ⟨xi2_4, xa2_4, po2_4, qo2_4, ps2_4, qs2_4, pc2_4, qc2_4, pn2_4, qn2_4, pm2_4, qm2_4, xw2_4, xv2_4, pf2_4, qf2_4, pr2_4, qr2_4, xe2_4, xf2_4, rfl, vo2_4, vs2_4, vc2_4, vn2_4, vm2_4, vf2_4, vr2_4⟩; refine S_w0 rfl rfl (W_all rfl rfl rfl (ty rfl) u0 (by first | rfl | assumption) (by first | rfl | assumption) (by first | rfl | assumption | exact ones_sub ‹_› _ _) ?_); refine Sm rfl ?_; refine On ?_; refine WP_ret ?_; refine block_r ?_; refine then_r ?_; refine roundF_r ?_; refine block_r ?_; refine then_r ?_)); rotate_left 1; (focus (refine WP_skip ?_; refine block_n ?_; refine then_n ?_; refine R_region ?_; refine Sm rfl ?_; refine S_q rfl rfl rfl (Q_add rfl rfl rfl (by omega)) ?_; refine Sm rfl ?_; refine OPS_nil ?_)); rotate_left 1))
    · have hv : viewOf vs m = some v := by rw [← ht, if_pos (by simpa using c2_3)]
      refine pret (.inl rfl) rfl ⟨_, _, _, rfl, Loads_agg (Rd.own m0) (ty rfl) rfl, ⟨_, _, rfl, rfl, rfl⟩, rfl⟩ ?_
      have hz : vwAt vs m = v := by rw [vwAt, hv]; rfl
      rw [hz, hv]
      exact ⟨_, rfl, rfl, by assumption, xi2_4, _, _, _, _, _, _, _, _, _, _, _, _, _, _, _, _, _, _, _, rfl, vo2_4, vs2_4, vc2_4, vn2_4, vm2_4, vf2_4, vr2_4⟩
    · refine roundF_n (k + 1) (by omega) ⟨rfl, by omega, ?_⟩ (by repeat' first | exact sR _ | exact sA _ _ | exact sN _ | apply s2 | apply s1) (by repeat' first | exact trivial | refine ⟨rfl, ?_⟩)
      rw [← ht, if_neg (by simpa using c2_3)]
  · have hge : k = vs.length := by omega
    subst hge
    rw [List.drop_length] at ht
    (focus (refine WP_seq ?_; refine Wr ?_; refine Sm rfl ?_; refine Sm rfl ?_; refine S_q rfl rfl rfl (Q_lenS rfl rfl rfl rfl rfl rfl ‹_›) ?_; refine Sc rfl rfl rfl rfl rfl rfl rfl ?_; refine On ?_; refine WP_cond rfl (fun c3_1 => ?_) (fun c3_1 => ?_) <;> (first | (simp [*] at c3_1; done) | (try simp at c3_1)); refine WP_exit ?_; refine then_e ?_; refine roundF_e ?_; refine block_e ?_; refine then_n ?_; refine Wr ?_; refine S_q rfl rfl rfl (Q_build rfl (by decide +kernel) (zer rfl) rfl rfl) ?_; refine S_w0 rfl rfl (W_all rfl rfl rfl (ty rfl) u0 (by first | rfl | assumption) (by first | rfl | assumption) (by first | rfl | assumption | exact ones_sub ‹_› _ _) ?_); refine Sm rfl ?_; refine On ?_; refine WP_ret ?_))
    have hv : viewOf vs m = none := ht.symm
    refine pret (.inl rfl) rfl ⟨_, _, _, rfl, Loads_agg (Rd.own m0) (ty rfl) rfl, ⟨_, _, rfl, rfl, rfl⟩, rfl⟩ ?_
    have hz : vwAt vs m = zeroV := by rw [vwAt, hv]; rfl
    rw [hz, hv, zeroV]
    refine ⟨_, rfl, rfl, rfl, by unfold inI64; decide, _, _, _, _, _, _, _, _, _, _, _, _, _, _, _, _, _, _, _, rfl, ?_⟩
    exact ⟨SLB.nil _ _ _ _ _ _, SLB.nil _ _ _ _ _ _, SLB.nil _ _ _ _ _ _, SLB.nil _ _ _ _ _ _, SLB.nil _ _ _ _ _ _, SLB.nil _ _ _ _ _ _, SLB.nil _ _ _ _ _ _⟩
theorem findG_def (g : List Nd) (id : ID) : findG g id = g.find? fun n => decide (n.id = id) := by rw [findG]
theorem refFind_s {h : Frag} {g : List Nd} {vs : List Value} {id : ID} (hg : GraphC 4398046511104 h g vs) : PSpec Tryz.prog 62 #[.agg vs.toArray, .agg (idc id).toArray] h
    (fun _ v => ∃ us, v = .tuple #[.agg us.toArray, .bool (findG g id).isSome] ∧ us.length = 5 ∧ ones us = true ∧ NodeC 4398046511104 h ((findG g id).getD zeroN) us) := by
  obtain ⟨p, c, rfl, hf⟩ := hg
  have hl := hf.le
  obtain ⟨i1, i2⟩ := id
  refine pspec_of (vs := [.agg [Value.slice p g.length c].toArray, .agg (idc (i1, i2)).toArray]) Tryz.func62 Tryz.ntmps62 rfl rfl ?_
  (focus (refine Wr ?_; refine S_c rfl rfl rfl (C_box rfl rfl ?_); intro b0_1; refine S_c rfl rfl rfl (C_box rfl rfl ?_); intro b0_2; refine S_c rfl rfl rfl (C_alloc rfl (zer rfl) ?_); intro b0_3; refine Sm rfl ?_; refine On ?_; refine WP_seq ?_; refine Wr ?_; refine Sm rfl ?_; refine On ?_; refine WP_block ?_))
  (refine WP_loopC (α := Nat) [4, 3, 2] (fun (k : Nat) => g.length - k) (fun (k : Nat) => [(6, .int .i64 k)]) (fun hh (k : Nat) => hh = h ∧ k ≤ g.length ∧ (g.drop k).find? (fun n => decide (n.id = (i1, i2))) = findG g (i1, i2)) 0 ⟨_, _, rfl, ⟨_, _, rfl, ⟨_, _, rfl, rfl, rfl⟩, rfl⟩, rfl⟩ (by repeat' first | exact trivial | refine ⟨rfl, ?_⟩) ?_ ?_)
  · exact ⟨rfl, Nat.zero_le _, by rw [findG_def]; rfl⟩
  rintro h1 k _ ⟨rfl, hk, ht⟩
  by_cases hlt : k < g.length
  · obtain ⟨⟨⟨n1, n2⟩, kd, cl, fs⟩, en⟩ := get_of hlt
    rw [find_drop en] at ht
    (focus (refine WP_seq ?_; refine Wr ?_; refine Sm rfl ?_; refine Sf rfl rfl rfl rfl rfl (fld rfl rfl) ?_; refine S_load rfl rfl rfl rfl rfl ?_; refine L_one (Rd.own m2) (ty rfl) ?_; refine S_q rfl rfl rfl (Q_len rfl rfl rfl rfl rfl rfl) ?_; refine Sc rfl rfl rfl rfl rfl rfl rfl ?_; refine On ?_; refine WP_cond rfl (fun c2_1 => ?_) (fun c2_1 => ?_) <;> (first | (simp [*] at c2_1; done) | (try simp at c2_1)); refine WP_skip ?_; refine then_n ?_; refine WP_seq ?_; refine WP_block ?_; refine WP_seq ?_; refine R_draw (n := 8) mixed rfl ?_; refine A_at 0 rfl rfl ?_; refine A_q (m' := 1) rfl rfl rfl (Q_fieldAddr rfl rfl (fld rfl rfl)) rfl (by decide +kernel) ?_; refine A_at 1 rfl rfl ?_; refine A_load (m' := 3) rfl rfl rfl rfl rfl rfl (by decide +kernel) ?_; refine L_one (Rd.own m2) (ty rfl) ?_; refine A_at 2 rfl rfl ?_; refine A_q (m' := 7) rfl rfl rfl (Q_move rfl rfl) rfl (by decide +kernel) ?_; refine A_at 3 rfl rfl ?_; refine A_q (m' := 15) rfl rfl rfl (Q_indexS ‹_› ‹_› rfl rfl rfl (elm rfl) rfl) rfl (by decide +kernel) ?_; refine A_at 4 rfl rfl ?_; refine A_q (m' := 31) rfl rfl rfl (Q_fieldAddr rfl rfl (fld rfl rfl)) rfl (by decide +kernel) ?_; refine A_at 5 rfl rfl ?_; refine A_load (m' := 63) rfl rfl rfl rfl rfl rfl (by decide +kernel) ?_; refine L_elF ‹_› ‹_› ?_; rintro _ _ _ ⟨pn2_2, qn2_2, rfl, fn2_2⟩; refine LV_a (ty rfl) rfl ?_; refine A_at 6 rfl rfl ?_; refine A_load (m' := 127) rfl rfl rfl rfl rfl rfl (by decide +kernel) ?_; refine L_agg (Rd.own m1) (ty rfl) (by first | rfl | assumption) ?_; refine A_at 7 rfl rfl ?_; refine A_q (m' := 255) rfl rfl rfl (Q_eqI eqID rfl rfl rfl rfl rfl) rfl (by decide +kernel) ?_; refine A_done (by decide +kernel) ?_; refine then_n ?_; refine WP_cond rfl (fun c2_3 => ?_) (fun c2_3 => ?_) <;> (first | (simp [*] at c2_3; done) | (try simp at c2_3)); (focus (refine Wr ?_; refine Sf rfl rfl rfl rfl rfl (fld rfl rfl) ?_; refine S_load rfl rfl rfl rfl rfl ?_; refine L_one (Rd.own m2) (ty rfl) ?_; refine Sm rfl ?_; refine S_q rfl rfl rfl (Q_indexS ‹_› ‹_› rfl rfl rfl (elm rfl) rfl) ?_; refine S_load rfl rfl rfl rfl rfl ?_; refine L_elA ‹_› ‹_› (ty rfl) ?_; rintro _ _ _ ⟨pn2_4, qn2_4, rfl, fn2_4⟩; refine S_w0 rfl rfl (W_all rfl rfl rfl (ty rfl) u0 (by first | rfl | assumption) (by first | rfl | assumption) (by first | rfl | assumption | exact ones_sub ‹_› _ _) ?_); refine Sm rfl ?_; refine On ?_; refine WP_ret ?_; refine block_r ?_; refine then_r ?_; refine roundF_r ?_; refine block_r ?_; refine then_r ?_)); rotate_left 1; (focus (refine WP_skip ?_; refine block_n ?_; refine then_n ?_; refine R_region ?_; refine Sm rfl ?_; refine S_q rfl rfl rfl (Q_add rfl rfl rfl (by omega)) ?_; refine Sm rfl ?_; refine OPS_nil ?_)); rotate_left 1))
    · have hv : findG g (i1, i2) = some ⟨(n1, n2), kd, cl, fs⟩ := by rw [← ht, if_pos (by simpa using c2_3)]
      refine pret (.inl rfl) rfl ⟨_, _, _, rfl, Loads_agg (Rd.own m0) (ty rfl) rfl, ⟨_, _, rfl, rfl, rfl⟩, rfl⟩ ?_
      rw [hv]
      exact ⟨_, rfl, rfl, by assumption, _, _, rfl, by assumption⟩
    · refine roundF_n (k + 1) (by omega) ⟨rfl, by omega, ?_⟩ (by repeat' first | exact sR _ | exact sA _ _ | exact sN _ | apply s2 | apply s1) (by repeat' first | exact trivial | refine ⟨rfl, ?_⟩)
      rw [← ht, if_neg (by simpa using c2_3)]
  · have hge : k = g.length := by omega
    subst hge
    rw [List.drop_length] at ht
    (focus (refine WP_seq ?_; refine Wr ?_; refine Sm rfl ?_; refine Sf rfl rfl rfl rfl rfl (fld rfl rfl) ?_; refine S_load rfl rfl rfl rfl rfl ?_; refine L_one (Rd.own m2) (ty rfl) ?_; refine S_q rfl rfl rfl (Q_len rfl rfl rfl rfl rfl rfl) ?_; refine Sc rfl rfl rfl rfl rfl rfl rfl ?_; refine On ?_; refine WP_cond rfl (fun c3_1 => ?_) (fun c3_1 => ?_) <;> (first | (simp [*] at c3_1; done) | (try simp at c3_1)); refine WP_exit ?_; refine then_e ?_; refine roundF_e ?_; refine block_e ?_; refine then_n ?_; refine Wr ?_; refine S_q rfl rfl rfl (Q_build rfl (by decide +kernel) (zer rfl) rfl rfl) ?_; refine S_w0 rfl rfl (W_all rfl rfl rfl (ty rfl) u0 (by first | rfl | assumption) (by first | rfl | assumption) (by first | rfl | assumption | exact ones_sub ‹_› _ _) ?_); refine Sm rfl ?_; refine On ?_; refine WP_ret ?_))
    have hv : findG g (i1, i2) = none := ht.symm
    refine pret (.inl rfl) rfl ⟨_, _, _, rfl, Loads_agg (Rd.own m0) (ty rfl) rfl, ⟨_, _, rfl, rfl, rfl⟩, rfl⟩ ?_
    rw [hv]
    exact ⟨_, rfl, rfl, rfl, none, 0, rfl, SLB.nil _ _ _ _ _ _⟩
theorem refLocal_s {h : Frag} {us : List Value} {v : View} {id : ID} (hv : ViewC 4398046511104 h v us) : PSpec Tryz.prog 22 #[.agg us.toArray, .agg (idc id).toArray] h (fun _ u => u = .bool (localB v id)) := by
  obtain ⟨hi, xa, po, qo, qs, qt, pc, qc, pn, qn, pm, qm, xw, xv, pf, qf, pr, qr, xe, xf, rfl, vo, -⟩ := hv
  obtain ⟨i1, i2⟩ := id
  refine pspec_of (vs := [.agg _, .agg (idc (i1, i2)).toArray]) Tryz.func22 Tryz.ntmps22 rfl rfl ?_
  (focus (refine Wr ?_; refine S_c rfl rfl rfl (C_box rfl rfl ?_); intro b0_1; refine S_c rfl rfl rfl (C_box rfl rfl ?_); intro b0_2; refine Sm rfl ?_; refine On ?_; refine Wr ?_; refine Sf rfl rfl rfl rfl rfl (fld rfl rfl) ?_; refine S_load rfl rfl rfl rfl rfl ?_; refine L_sub (Rd.own m1) (ty rfl) rfl ?_; refine S_load rfl rfl rfl rfl rfl ?_; refine L_agg (Rd.own m0) (ty rfl) (by first | rfl | assumption) ?_; refine S_c rfl rfl rfl (C_call0 (refFind_s ⟨_, _, rfl, by assumption⟩) rfl rfl ⟨_, _, rfl, ⟨_, _, rfl, rfl, rfl⟩, rfl⟩ (cal rfl) ?_); rintro _ ⟨cv0_3, rfl, cl0_3, co0_3, ⟨pn0_3, qn0_3, rfl, fn0_3⟩⟩; refine Sm rfl ?_; refine S_q rfl rfl rfl (Q_extract rfl rfl rfl) ?_; refine S_q rfl rfl rfl (Q_extract rfl rfl rfl) ?_; refine S_c rfl rfl rfl (C_alloc rfl (zer rfl) ?_); intro b0_4; refine S_w0 rfl rfl (W_all rfl rfl rfl (ty rfl) u0 (by first | rfl | assumption) (by first | rfl | assumption) (by first | rfl | assumption | exact ones_sub ‹_› _ _) ?_); refine Sm rfl ?_; refine On ?_; refine Wr ?_; refine Sm rfl ?_; refine Sm rfl ?_; refine S_gsplit rfl rfl rfl rfl (fun c0_5 => ?_) (fun c0_5 => ?_) <;> (first | (simp [*] at c0_5; done) | (try simp at c0_5)); (focus (refine S_gq rfl rfl rfl rfl rfl rfl (Q_fieldAddr rfl rfl (fld rfl rfl)) ?_; refine S_gload rfl rfl rfl rfl rfl rfl rfl rfl ?_; refine L_fld (Rd.own m0) (ty rfl) rfl ?_; refine S_gq rfl rfl rfl rfl rfl rfl (Q_cmp rfl rfl rfl rfl) ?_; refine S_q rfl rfl rfl (Q_pick_t rfl rfl rfl) ?_; refine Sm rfl ?_; refine On ?_; refine WP_ret ?_)); rotate_left 1; (focus (refine Sn rfl ?_; refine Sn rfl ?_; refine Sn rfl ?_; refine S_q rfl rfl rfl (Q_pick_f rfl rfl rfl) ?_; refine Sm rfl ?_; refine On ?_; refine WP_ret ?_)); rotate_left 1))
  all_goals refine pret (.inl rfl) rfl ⟨_, _, rfl, rfl, rfl⟩ ?_
  all_goals (rw [localB]; cases hx : findG v.objects (i1, i2) <;> simp_all [resOf]; try rfl)
theorem refSameNode_s {h : Frag} {n m : Nd} {vs us : List Value} (hn : NodeC 4398046511104 h n vs) (hm : NodeC 4398046511104 h m us) : PSpec Tryz.prog 116 #[.agg vs.toArray, .agg us.toArray] h (fun _ v => v = .bool (decide (n = m))) := by
  obtain ⟨p, c, rfl, hf⟩ := hn
  obtain ⟨p', c', rfl, hg⟩ := hm
  obtain ⟨⟨i1, i2⟩, kd, cl, fs⟩ := n
  obtain ⟨⟨j1, j2⟩, kd', cl', fs'⟩ := m
  simp only at hf hg
  have hnl := hf.le
  have hml := hg.le
  refine pspec_of (vs := [.agg [Value.int .i64 i1, .int .i64 i2, .int .i64 kd, .int .i64 cl, .slice p fs.length c].toArray, .agg [Value.int .i64 j1, .int .i64 j2, .int .i64 kd', .int .i64 cl', .slice p' fs'.length c'].toArray]) Tryz.func116 Tryz.ntmps116 rfl rfl ?_
  (focus (refine Wr ?_; refine S_c rfl rfl rfl (C_box rfl rfl ?_); intro b0_1; refine S_c rfl rfl rfl (C_box rfl rfl ?_); intro b0_2; refine Sm rfl ?_; refine On ?_; refine WP_seq ?_; refine Wr ?_; refine Sf rfl rfl rfl rfl rfl (fld rfl rfl) ?_; refine S_load rfl rfl rfl rfl rfl ?_; refine L_sub (Rd.own m1) (ty rfl) rfl ?_; refine Sf rfl rfl rfl rfl rfl (fld rfl rfl) ?_; refine S_load rfl rfl rfl rfl rfl ?_; refine L_sub (Rd.own m0) (ty rfl) rfl ?_; refine S_q rfl rfl rfl (Q_neI eqID rfl rfl rfl rfl rfl) ?_; refine Sm rfl ?_; refine S_gsplit rfl rfl rfl rfl (fun c0_3 => ?_) (fun c0_3 => ?_) <;> (first | (simp [*] at c0_3; done) | (try simp at c0_3)); (focus (refine Sn rfl ?_; refine Sn rfl ?_; refine Sn rfl ?_; refine Sn rfl ?_; refine Sn rfl ?_; refine S_q rfl rfl rfl (Q_pick_t rfl rfl rfl) ?_; refine Sm rfl ?_; refine Sn rfl ?_; refine Sn rfl ?_; refine Sn rfl ?_; refine Sn rfl ?_; refine Sn rfl ?_; refine S_q rfl rfl rfl (Q_pick_t rfl rfl rfl) ?_; refine Sm rfl ?_; refine Sn rfl ?_; refine Sn rfl ?_; refine Sn rfl ?_; refine Sn rfl ?_; refine Sn rfl ?_; refine Sn rfl ?_; refine Sn rfl ?_; refine S_q rfl rfl rfl (Q_pick_t rfl rfl rfl) ?_; refine On ?_; refine cond_t rfl ?_; refine Wr ?_; refine Sm rfl ?_; refine On ?_; refine WP_ret ?_; refine then_r ?_)); rotate_left 1; (focus (refine S_gq rfl rfl rfl rfl rfl rfl (Q_fieldAddr rfl rfl (fld rfl rfl)) ?_; refine S_gload rfl rfl rfl rfl rfl rfl rfl rfl ?_; refine L_fld (Rd.own m1) (ty rfl) rfl ?_; refine S_gq rfl rfl rfl rfl rfl rfl (Q_fieldAddr rfl rfl (fld rfl rfl)) ?_; refine S_gload rfl rfl rfl rfl rfl rfl rfl rfl ?_; refine L_fld (Rd.own m0) (ty rfl) rfl ?_; refine S_gq rfl rfl rfl rfl rfl rfl (Q_cmp rfl rfl rfl rfl) ?_; refine S_q rfl rfl rfl (Q_pick_f rfl rfl rfl) ?_; refine Sm rfl ?_; refine S_gsplit rfl rfl rfl rfl (fun c0_4 => ?_) (fun c0_4 => ?_) <;> (first | (simp [*] at c0_4; done) | (try simp at c0_4)); (focus (refine Sn rfl ?_; refine Sn rfl ?_; refine Sn rfl ?_; refine Sn rfl ?_; refine Sn rfl ?_; refine S_q rfl rfl rfl (Q_pick_t rfl rfl rfl) ?_; refine Sm rfl ?_; refine Sn rfl ?_; refine Sn rfl ?_; refine Sn rfl ?_; refine Sn rfl ?_; refine Sn rfl ?_; refine Sn rfl ?_; refine Sn rfl ?_; refine S_q rfl rfl rfl (Q_pick_t rfl rfl rfl) ?_; refine On ?_; refine cond_t rfl ?_; refine Wr ?_; refine Sm rfl ?_; refine On ?_; refine WP_ret ?_; refine then_r ?_)); rotate_left 1; (focus (refine S_gq rfl rfl rfl rfl rfl rfl (Q_fieldAddr rfl rfl (fld rfl rfl)) ?_; refine S_gload rfl rfl rfl rfl rfl rfl rfl rfl ?_; refine L_fld (Rd.own m1) (ty rfl) rfl ?_; refine S_gq rfl rfl rfl rfl rfl rfl (Q_fieldAddr rfl rfl (fld rfl rfl)) ?_; refine S_gload rfl rfl rfl rfl rfl rfl rfl rfl ?_; refine L_fld (Rd.own m0) (ty rfl) rfl ?_; refine S_gq rfl rfl rfl rfl rfl rfl (Q_cmp rfl rfl rfl rfl) ?_; refine S_q rfl rfl rfl (Q_pick_f rfl rfl rfl) ?_; refine Sm rfl ?_; refine S_gsplit rfl rfl rfl rfl (fun c0_5 => ?_) (fun c0_5 => ?_) <;> (first | (simp [*] at c0_5; done) | (try simp at c0_5)); (focus (refine Sn rfl ?_; refine Sn rfl ?_; refine Sn rfl ?_; refine Sn rfl ?_; refine Sn rfl ?_; refine Sn rfl ?_; refine Sn rfl ?_; refine S_q rfl rfl rfl (Q_pick_t rfl rfl rfl) ?_; refine On ?_; refine cond_t rfl ?_; refine Wr ?_; refine Sm rfl ?_; refine On ?_; refine WP_ret ?_; refine then_r ?_)); rotate_left 1; (focus (refine S_gq rfl rfl rfl rfl rfl rfl (Q_fieldAddr rfl rfl (fld rfl rfl)) ?_; refine S_gload rfl rfl rfl rfl rfl rfl rfl rfl ?_; refine L_fld (Rd.own m1) (ty rfl) rfl ?_; refine S_gq rfl rfl rfl rfl rfl rfl (Q_len rfl rfl rfl rfl rfl rfl) ?_; refine S_gq rfl rfl rfl rfl rfl rfl (Q_fieldAddr rfl rfl (fld rfl rfl)) ?_; refine S_gload rfl rfl rfl rfl rfl rfl rfl rfl ?_; refine L_fld (Rd.own m0) (ty rfl) rfl ?_; refine S_gq rfl rfl rfl rfl rfl rfl (Q_len rfl rfl rfl rfl rfl rfl) ?_; refine S_gq rfl rfl rfl rfl rfl rfl (Q_cmp rfl rfl rfl rfl) ?_; refine S_q rfl rfl rfl (Q_pick_f rfl rfl rfl) ?_; refine On ?_; refine WP_cond rfl (fun c0_6 => ?_) (fun c0_6 => ?_) <;> (first | (simp [*] at c0_6; done) | (try simp at c0_6)); (focus (refine Wr ?_; refine Sm rfl ?_; refine On ?_; refine WP_ret ?_; refine then_r ?_)); rotate_left 1; (focus (refine WP_skip ?_; refine then_n ?_; refine WP_seq ?_; refine Wr ?_; refine Sm rfl ?_; refine On ?_; refine WP_block ?_)); rotate_left 1)); rotate_left 2)); rotate_left 3)); rotate_left 4))
  iterate 3
    · refine pret (.inl rfl) rfl ⟨_, _, rfl, rfl, rfl⟩ ?_
      simp only [resOf]; refine congrArg Value.bool (decide_eq_false fun e => ?_).symm
      simp only [Nd.mk.injEq, Prod.mk.injEq] at e; omega
  · refine pret (.inl rfl) rfl ⟨_, _, rfl, rfl, rfl⟩ ?_
    simp only [resOf]; refine congrArg Value.bool (decide_eq_false fun e => ?_).symm
    simp only [Nd.mk.injEq, Prod.mk.injEq] at e; rw [e.2.2.2] at c0_6; exact c0_6 rfl
  obtain ⟨rfl, rfl⟩ := c0_3
  subst c0_4
  subst c0_5
  have hlen : fs.length = fs'.length := by omega
  (refine WP_loopC (α := Nat) [3, 2] (fun (k : Nat) => fs.length - k) (fun (k : Nat) => [(5, .int .i64 k)]) (fun hh (k : Nat) => hh = h ∧ k ≤ fs.length ∧ fs.take k = fs'.take k) 0 ⟨_, _, rfl, ⟨_, _, rfl, rfl, rfl⟩, rfl⟩ (by repeat' first | exact trivial | refine ⟨rfl, ?_⟩) ?_ ?_)
  · exact ⟨rfl, Nat.zero_le _, rfl⟩
  rintro h1 k _ ⟨rfl, hk, ht⟩
  by_cases hlt : k < fs.length
  · obtain ⟨⟨x1, x2, x3, x4⟩, ex⟩ := get_of hlt
    obtain ⟨⟨y1, y2, y3, y4⟩, ey⟩ := get_of (xs := fs') (k := k) (by omega)
    (focus (refine WP_seq ?_; refine Wr ?_; refine Sm rfl ?_; refine Sf rfl rfl rfl rfl rfl (fld rfl rfl) ?_; refine S_load rfl rfl rfl rfl rfl ?_; refine L_fld (Rd.own m1) (ty rfl) rfl ?_; refine S_q rfl rfl rfl (Q_len rfl rfl rfl rfl rfl rfl) ?_; refine Sc rfl rfl rfl rfl rfl rfl rfl ?_; refine On ?_; refine WP_cond rfl (fun c2_1 => ?_) (fun c2_1 => ?_) <;> (first | (simp [*] at c2_1; done) | (try simp at c2_1)); (focus (refine WP_skip ?_; refine then_n ?_; refine WP_seq ?_; refine WP_block ?_; refine WP_seq ?_; refine R_draw (n := 11) mixed rfl ?_; refine A_at 0 rfl rfl ?_; refine A_q (m' := 1) rfl rfl rfl (Q_fieldAddr rfl rfl (fld rfl rfl)) rfl (by decide +kernel) ?_; refine A_at 1 rfl rfl ?_; refine A_load (m' := 3) rfl rfl rfl rfl rfl rfl (by decide +kernel) ?_; refine L_fld (Rd.own m1) (ty rfl) rfl ?_; refine A_at 2 rfl rfl ?_; refine A_q (m' := 7) rfl rfl rfl (Q_move rfl rfl) rfl (by decide +kernel) ?_; refine A_at 3 rfl rfl ?_; refine A_q (m' := 15) rfl rfl rfl (Q_indexS ‹_› ‹_› rfl rfl rfl (elm rfl) rfl) rfl (by decide +kernel) ?_; refine A_at 4 rfl rfl ?_; refine A_load (m' := 31) rfl rfl rfl rfl rfl rfl (by decide +kernel) ?_; refine L_elA ‹_› ‹_› (ty rfl) ?_; rintro _ _ _ rfl; refine A_at 5 rfl rfl ?_; refine A_q (m' := 63) rfl rfl rfl (Q_fieldAddr rfl rfl (fld rfl rfl)) rfl (by decide +kernel) ?_; refine A_at 6 rfl rfl ?_; refine A_load (m' := 127) rfl rfl rfl rfl rfl rfl (by decide +kernel) ?_; refine L_fld (Rd.own m0) (ty rfl) rfl ?_; refine A_at 7 rfl rfl ?_; refine A_q (m' := 255) rfl rfl rfl (Q_move rfl rfl) rfl (by decide +kernel) ?_; refine A_at 8 rfl rfl ?_; refine A_q (m' := 511) rfl rfl rfl (Q_indexS ‹_› ‹_› rfl rfl rfl (elm rfl) rfl) rfl (by decide +kernel) ?_; refine A_at 9 rfl rfl ?_; refine A_load (m' := 1023) rfl rfl rfl rfl rfl rfl (by decide +kernel) ?_; refine L_elA ‹_› ‹_› (ty rfl) ?_; rintro _ _ _ rfl; refine A_at 10 rfl rfl ?_; refine A_q (m' := 2047) rfl rfl rfl (Q_neV eqVal rfl rfl rfl rfl rfl) rfl (by decide +kernel) ?_; refine A_done (by decide +kernel) ?_; refine then_n ?_; refine WP_cond rfl (fun c2_4 => ?_) (fun c2_4 => ?_) <;> (first | (simp [*] at c2_4; done) | (try simp at c2_4)); (focus (refine Wr ?_; refine Sm rfl ?_; refine On ?_; refine WP_ret ?_; refine block_r ?_; refine then_r ?_; refine roundF_r ?_; refine block_r ?_; refine then_r ?_)); rotate_left 1; (focus (refine WP_skip ?_; refine block_n ?_; refine then_n ?_; refine R_region ?_; refine Sm rfl ?_; refine S_q rfl rfl rfl (Q_add rfl rfl rfl (by omega)) ?_; refine Sm rfl ?_; refine OPS_nil ?_)); rotate_left 1)); rotate_left 2; (focus (exfalso; omega))))
    · refine pret (.inl rfl) rfl ⟨_, _, rfl, rfl, rfl⟩ ?_
      have : fs ≠ fs' := fun e => by subst e; rw [ex] at ey; cases ey; simp_all
      simp [resOf, this]
    · refine roundF_n (k + 1) (by omega) ⟨rfl, by omega, take_eq (x := (x1, x2, x3, x4)) ht ex ?_⟩ (by repeat' first | exact sR _ | exact sA _ _ | exact sN _ | apply s2 | apply s1) (by repeat' first | exact trivial | refine ⟨rfl, ?_⟩)
      rw [ey]; simp_all
  · have hge : k = fs.length := by omega
    subst hge
    (focus (refine WP_seq ?_; refine Wr ?_; refine Sm rfl ?_; refine Sf rfl rfl rfl rfl rfl (fld rfl rfl) ?_; refine S_load rfl rfl rfl rfl rfl ?_; refine L_fld (Rd.own m1) (ty rfl) rfl ?_; refine S_q rfl rfl rfl (Q_len rfl rfl rfl rfl rfl rfl) ?_; refine Sc rfl rfl rfl rfl rfl rfl rfl ?_; refine On ?_; refine WP_cond rfl (fun c3_1 => ?_) (fun c3_1 => ?_) <;> (first | (simp [*] at c3_1; done) | (try simp at c3_1)); refine WP_exit ?_; refine then_e ?_; refine roundF_e ?_; refine block_e ?_; refine then_n ?_; refine Wr ?_; refine Sm rfl ?_; refine On ?_; refine WP_ret ?_))
    · refine pret (.inl rfl) rfl ⟨_, _, rfl, rfl, rfl⟩ ?_
      have : fs = fs' := by rw [List.take_of_length_le (Nat.le_refl _), List.take_of_length_le (by omega)] at ht; exact ht
      simp [resOf, this]
theorem refEqual_s {h : Frag} {g k : List Nd} {vs us : List Value} (hg : GraphC 4398046511104 h g vs) (hk : GraphC 4398046511104 h k us) : PSpec Tryz.prog 76 #[.agg vs.toArray, .agg us.toArray] h (fun _ v => v = .bool (decide (g = k))) := by
  obtain ⟨p, c, rfl, hf⟩ := hg
  obtain ⟨p', c', rfl, hg⟩ := hk
  have hnl := hf.le
  have hml := hg.le
  refine pspec_of (vs := [.agg [Value.slice p g.length c].toArray, .agg [Value.slice p' k.length c'].toArray]) Tryz.func76 Tryz.ntmps76 rfl rfl ?_
  (focus (refine Wr ?_; refine S_c rfl rfl rfl (C_box rfl rfl ?_); intro b0_1; refine S_c rfl rfl rfl (C_box rfl rfl ?_); intro b0_2; refine Sm rfl ?_; refine On ?_; refine WP_seq ?_; refine Wr ?_; refine Sf rfl rfl rfl rfl rfl (fld rfl rfl) ?_; refine S_load rfl rfl rfl rfl rfl ?_; refine L_one (Rd.own m1) (ty rfl) ?_; refine S_q rfl rfl rfl (Q_len rfl rfl rfl rfl rfl rfl) ?_; refine Sf rfl rfl rfl rfl rfl (fld rfl rfl) ?_; refine S_load rfl rfl rfl rfl rfl ?_; refine L_one (Rd.own m0) (ty rfl) ?_; refine S_q rfl rfl rfl (Q_len rfl rfl rfl rfl rfl rfl) ?_; refine Sc rfl rfl rfl rfl rfl rfl rfl ?_; refine On ?_; refine WP_cond rfl (fun c0_3 => ?_) (fun c0_3 => ?_) <;> (first | (simp [*] at c0_3; done) | (try simp at c0_3)); (focus (refine Wr ?_; refine Sm rfl ?_; refine On ?_; refine WP_ret ?_; refine then_r ?_)); rotate_left 1; (focus (refine WP_skip ?_; refine then_n ?_; refine WP_seq ?_; refine Wr ?_; refine Sm rfl ?_; refine On ?_; refine WP_block ?_)); rotate_left 1))
  · refine pret (.inl rfl) rfl ⟨_, _, rfl, rfl, rfl⟩ ?_
    simp only [resOf]; refine congrArg Value.bool (decide_eq_false fun e => ?_).symm
    rw [e] at c0_3; exact c0_3 rfl
  have hlen : g.length = k.length := by omega
  (refine WP_loopC (α := Nat) [3, 2] (fun (i : Nat) => g.length - i) (fun (i : Nat) => [(5, .int .i64 i)]) (fun hh (i : Nat) => hh = h ∧ i ≤ g.length ∧ g.take i = k.take i) 0 ⟨_, _, rfl, ⟨_, _, rfl, rfl, rfl⟩, rfl⟩ (by repeat' first | exact trivial | refine ⟨rfl, ?_⟩) ?_ ?_)
  · exact ⟨rfl, Nat.zero_le _, rfl⟩
  rintro h1 i _ ⟨rfl, hi, ht⟩
  by_cases hlt : i < g.length
  · obtain ⟨x, ex⟩ := get_of hlt
    obtain ⟨y, ey⟩ := get_of (xs := k) (k := i) (by omega)
    (focus (refine WP_seq ?_; refine Wr ?_; refine Sm rfl ?_; refine Sf rfl rfl rfl rfl rfl (fld rfl rfl) ?_; refine S_load rfl rfl rfl rfl rfl ?_; refine L_one (Rd.own m1) (ty rfl) ?_; refine S_q rfl rfl rfl (Q_len rfl rfl rfl rfl rfl rfl) ?_; refine Sc rfl rfl rfl rfl rfl rfl rfl ?_; refine On ?_; refine WP_cond rfl (fun c2_1 => ?_) (fun c2_1 => ?_) <;> (first | (simp [*] at c2_1; done) | (try simp at c2_1)); (focus (refine WP_skip ?_; refine then_n ?_; refine WP_seq ?_; refine WP_block ?_; refine WP_seq ?_; refine R_draw (n := 12) mixed rfl ?_; refine A_at 0 rfl rfl ?_; refine A_q (m' := 1) rfl rfl rfl (Q_fieldAddr rfl rfl (fld rfl rfl)) rfl (by decide +kernel) ?_; refine A_at 1 rfl rfl ?_; refine A_load (m' := 3) rfl rfl rfl rfl rfl rfl (by decide +kernel) ?_; refine L_one (Rd.own m1) (ty rfl) ?_; refine A_at 2 rfl rfl ?_; refine A_q (m' := 7) rfl rfl rfl (Q_move rfl rfl) rfl (by decide +kernel) ?_; refine A_at 3 rfl rfl ?_; refine A_q (m' := 15) rfl rfl rfl (Q_indexS ‹_› ‹_› rfl rfl rfl (elm rfl) rfl) rfl (by decide +kernel) ?_; refine A_at 4 rfl rfl ?_; refine A_load (m' := 31) rfl rfl rfl rfl rfl rfl (by decide +kernel) ?_; refine L_elA ‹_› ‹_› (ty rfl) ?_; rintro _ _ _ ⟨pn2_2, qn2_2, rfl, fn2_2⟩; refine A_at 5 rfl rfl ?_; refine A_q (m' := 63) rfl rfl rfl (Q_fieldAddr rfl rfl (fld rfl rfl)) rfl (by decide +kernel) ?_; refine A_at 6 rfl rfl ?_; refine A_load (m' := 127) rfl rfl rfl rfl rfl rfl (by decide +kernel) ?_; refine L_one (Rd.own m0) (ty rfl) ?_; refine A_at 7 rfl rfl ?_; refine A_q (m' := 255) rfl rfl rfl (Q_move rfl rfl) rfl (by decide +kernel) ?_; refine A_at 8 rfl rfl ?_; refine A_q (m' := 511) rfl rfl rfl (Q_indexS ‹_› ‹_› rfl rfl rfl (elm rfl) rfl) rfl (by decide +kernel) ?_; refine A_at 9 rfl rfl ?_; refine A_load (m' := 1023) rfl rfl rfl rfl rfl rfl (by decide +kernel) ?_; refine L_elA ‹_› ‹_› (ty rfl) ?_; rintro _ _ _ ⟨pn2_3, qn2_3, rfl, fn2_3⟩; refine A_at 10 rfl rfl ?_; refine A_c (m' := 2047) rfl rfl rfl rfl (by decide +kernel) (C_callv (refSameNode_s ⟨_, _, rfl, by assumption⟩ ⟨_, _, rfl, by assumption⟩) rfl rfl ⟨_, _, rfl, ⟨_, _, rfl, rfl, rfl⟩, rfl⟩ (cal rfl) ?_); refine A_at 11 rfl rfl ?_; refine A_q (m' := 4095) rfl rfl rfl (Q_not rfl rfl) rfl (by decide +kernel) ?_; refine A_done (by decide +kernel) ?_; refine then_n ?_; refine WP_cond rfl (fun c2_4 => ?_) (fun c2_4 => ?_) <;> (first | (simp [*] at c2_4; done) | (try simp at c2_4)); (focus (refine Wr ?_; refine Sm rfl ?_; refine On ?_; refine WP_ret ?_; refine block_r ?_; refine then_r ?_; refine roundF_r ?_; refine block_r ?_; refine then_r ?_)); rotate_left 1; (focus (refine WP_skip ?_; refine block_n ?_; refine then_n ?_; refine R_region ?_; refine Sm rfl ?_; refine S_q rfl rfl rfl (Q_add rfl rfl rfl (by omega)) ?_; refine Sm rfl ?_; refine OPS_nil ?_)); rotate_left 1)); rotate_left 2; (focus (exfalso; omega))))
    · refine pret (.inl rfl) rfl ⟨_, _, rfl, rfl, rfl⟩ ?_
      have : g ≠ k := fun e => by subst e; rw [ex] at ey; cases ey; simp_all
      simp [resOf, this]
    · refine roundF_n (i + 1) (by omega) ⟨rfl, by omega, take_eq (x := x) ht ex ?_⟩ (by repeat' first | exact sR _ | exact sA _ _ | exact sN _ | apply s2 | apply s1) (by repeat' first | exact trivial | refine ⟨rfl, ?_⟩)
      rw [ey]; simp_all
  · have hge : i = g.length := by omega
    subst hge
    (focus (refine WP_seq ?_; refine Wr ?_; refine Sm rfl ?_; refine Sf rfl rfl rfl rfl rfl (fld rfl rfl) ?_; refine S_load rfl rfl rfl rfl rfl ?_; refine L_one (Rd.own m1) (ty rfl) ?_; refine S_q rfl rfl rfl (Q_len rfl rfl rfl rfl rfl rfl) ?_; refine Sc rfl rfl rfl rfl rfl rfl rfl ?_; refine On ?_; refine WP_cond rfl (fun c3_1 => ?_) (fun c3_1 => ?_) <;> (first | (simp [*] at c3_1; done) | (try simp at c3_1)); refine WP_exit ?_; refine then_e ?_; refine roundF_e ?_; refine block_e ?_; refine then_n ?_; refine Wr ?_; refine Sm rfl ?_; refine On ?_; refine WP_ret ?_))
    · refine pret (.inl rfl) rfl ⟨_, _, rfl, rfl, rfl⟩ ?_
      have : g = k := by rw [List.take_of_length_le (Nat.le_refl _), List.take_of_length_le (by omega)] at ht; exact ht
      simp [resOf, this]
theorem refCmp16_s (h : Frag) (a b : ID) : PSpec Tryz.prog 125 #[.agg (idc a).toArray, .agg (idc b).toArray] h (fun _ v => v = .int .i64 (cmpID a b)) := by
  obtain ⟨a1, a2⟩ := a
  obtain ⟨b1, b2⟩ := b
  refine pspec_of (vs := [.agg (idc (a1, a2)).toArray, .agg (idc (b1, b2)).toArray]) Tryz.func125 Tryz.ntmps125 rfl rfl ?_
  (focus (refine Wr ?_; refine S_c rfl rfl rfl (C_box rfl rfl ?_); intro b0_1; refine S_c rfl rfl rfl (C_box rfl rfl ?_); intro b0_2; refine Sm rfl ?_; refine On ?_; refine WP_seq ?_; refine Wr ?_; refine S_load rfl rfl rfl rfl rfl ?_; refine L_agg (Rd.own m1) (ty rfl) (by first | rfl | assumption) ?_; refine S_load rfl rfl rfl rfl rfl ?_; refine L_agg (Rd.own m0) (ty rfl) (by first | rfl | assumption) ?_; refine S_q rfl rfl rfl (Q_eqI eqID rfl rfl rfl rfl rfl) ?_; refine On ?_; refine WP_cond rfl (fun c0_3 => ?_) (fun c0_3 => ?_) <;> (first | (simp [*] at c0_3; done) | (try simp at c0_3)); (focus (refine Wr ?_; refine Sm rfl ?_; refine On ?_; refine WP_ret ?_; refine then_r ?_)); rotate_left 1; (focus (refine WP_skip ?_; refine then_n ?_; refine WP_seq ?_; refine Wr ?_; refine Sf rfl rfl rfl rfl rfl (fld rfl rfl) ?_; refine S_load rfl rfl rfl rfl rfl ?_; refine L_fld (Rd.own m1) (ty rfl) rfl ?_; refine Sf rfl rfl rfl rfl rfl (fld rfl rfl) ?_; refine S_load rfl rfl rfl rfl rfl ?_; refine L_fld (Rd.own m0) (ty rfl) rfl ?_; refine Sc rfl rfl rfl rfl rfl rfl rfl ?_; refine Sm rfl ?_; refine S_gsplit rfl rfl rfl rfl (fun c0_4 => ?_) (fun c0_4 => ?_) <;> (first | (simp [*] at c0_4; done) | (try simp at c0_4)); (focus (refine Sn rfl ?_; refine Sn rfl ?_; refine Sn rfl ?_; refine Sn rfl ?_; refine Sn rfl ?_; refine Sn rfl ?_; refine S_gu rfl rfl rfl rfl rfl rfl ?_; refine S_gu rfl rfl rfl rfl rfl rfl ?_; refine S_gu rfl rfl rfl rfl rfl rfl ?_; refine S_gu rfl rfl rfl rfl rfl rfl ?_; refine S_gu rfl rfl rfl rfl rfl rfl ?_; refine Sn rfl ?_; refine S_q rfl rfl rfl (Q_pick_t rfl rfl rfl) ?_; refine On ?_; refine cond_t rfl ?_; refine Wr ?_; refine Sm rfl ?_; refine On ?_; refine WP_ret ?_; refine then_r ?_)); rotate_left 1; (focus (refine S_gq rfl rfl rfl rfl rfl rfl (Q_fieldAddr rfl rfl (fld rfl rfl)) ?_; refine S_gload rfl rfl rfl rfl rfl rfl rfl rfl ?_; refine L_fld (Rd.own m1) (ty rfl) rfl ?_; refine S_gq rfl rfl rfl rfl rfl rfl (Q_fieldAddr rfl rfl (fld rfl rfl)) ?_; refine S_gload rfl rfl rfl rfl rfl rfl rfl rfl ?_; refine L_fld (Rd.own m0) (ty rfl) rfl ?_; refine S_gq rfl rfl rfl rfl rfl rfl (Q_cmp rfl rfl rfl rfl) ?_; refine S_gq rfl rfl rfl rfl rfl rfl (Q_move rfl rfl) ?_; refine S_gsplit rfl rfl rfl rfl (fun c0_5 => ?_) (fun c0_5 => ?_) <;> (first | (simp [*] at c0_5; done) | (try simp at c0_5)); (focus (refine S_gq rfl rfl rfl rfl rfl rfl (Q_fieldAddr rfl rfl (fld rfl rfl)) ?_; refine S_gload rfl rfl rfl rfl rfl rfl rfl rfl ?_; refine L_fld (Rd.own m1) (ty rfl) rfl ?_; refine S_gq rfl rfl rfl rfl rfl rfl (Q_fieldAddr rfl rfl (fld rfl rfl)) ?_; refine S_gload rfl rfl rfl rfl rfl rfl rfl rfl ?_; refine L_fld (Rd.own m0) (ty rfl) rfl ?_; refine S_gq rfl rfl rfl rfl rfl rfl (Q_cmp rfl rfl rfl rfl) ?_; refine S_gq rfl rfl rfl rfl rfl rfl (Q_pick_t rfl rfl rfl) ?_; refine S_q rfl rfl rfl (Q_pick_f rfl rfl rfl) ?_; refine On ?_; refine WP_cond rfl (fun c0_6 => ?_) (fun c0_6 => ?_) <;> (first | (simp [*] at c0_6; done) | (try simp at c0_6)); (focus (refine Wr ?_; refine Sm rfl ?_; refine On ?_; refine WP_ret ?_; refine then_r ?_)); rotate_left 1; (focus (refine WP_skip ?_; refine then_n ?_; refine Wr ?_; refine Sm rfl ?_; refine On ?_; refine WP_ret ?_)); rotate_left 1)); rotate_left 2; (focus (refine Sn rfl ?_; refine Sn rfl ?_; refine Sn rfl ?_; refine Sn rfl ?_; refine Sn rfl ?_; refine S_gq rfl rfl rfl rfl rfl rfl (Q_pick_f rfl rfl rfl) ?_; refine S_q rfl rfl rfl (Q_pick_f rfl rfl rfl) ?_; refine On ?_; refine cond_f rfl ?_; refine WP_skip ?_; refine then_n ?_; refine Wr ?_; refine Sm rfl ?_; refine On ?_; refine WP_ret ?_)); rotate_left 1)); rotate_left 3)); rotate_left 4))
  all_goals refine pret (.inl rfl) rfl ⟨_, _, rfl, rfl, rfl⟩ ?_
  all_goals (refine congrArg (Value.int .i64) ?_; simp only [cmpID, orI, cmpI]; grind)
theorem refCmp21_s (h : Frag) (a b : ID) : PSpec Tryz.prog 127 #[.agg (idc a).toArray, .agg (idc b).toArray] h (fun _ v => v = .int .i64 (cmpID a b)) := by
  obtain ⟨a1, a2⟩ := a
  obtain ⟨b1, b2⟩ := b
  refine pspec_of (vs := [.agg (idc (a1, a2)).toArray, .agg (idc (b1, b2)).toArray]) Tryz.func127 Tryz.ntmps127 rfl rfl ?_
  (focus (refine Wr ?_; refine S_c rfl rfl rfl (C_box rfl rfl ?_); intro b0_1; refine S_c rfl rfl rfl (C_box rfl rfl ?_); intro b0_2; refine Sm rfl ?_; refine On ?_; refine WP_seq ?_; refine Wr ?_; refine S_load rfl rfl rfl rfl rfl ?_; refine L_agg (Rd.own m1) (ty rfl) (by first | rfl | assumption) ?_; refine S_load rfl rfl rfl rfl rfl ?_; refine L_agg (Rd.own m0) (ty rfl) (by first | rfl | assumption) ?_; refine S_q rfl rfl rfl (Q_eqI eqID rfl rfl rfl rfl rfl) ?_; refine On ?_; refine WP_cond rfl (fun c0_3 => ?_) (fun c0_3 => ?_) <;> (first | (simp [*] at c0_3; done) | (try simp at c0_3)); (focus (refine Wr ?_; refine Sm rfl ?_; refine On ?_; refine WP_ret ?_; refine then_r ?_)); rotate_left 1; (focus (refine WP_skip ?_; refine then_n ?_; refine WP_seq ?_; refine Wr ?_; refine Sf rfl rfl rfl rfl rfl (fld rfl rfl) ?_; refine S_load rfl rfl rfl rfl rfl ?_; refine L_fld (Rd.own m1) (ty rfl) rfl ?_; refine Sf rfl rfl rfl rfl rfl (fld rfl rfl) ?_; refine S_load rfl rfl rfl rfl rfl ?_; refine L_fld (Rd.own m0) (ty rfl) rfl ?_; refine Sc rfl rfl rfl rfl rfl rfl rfl ?_; refine Sm rfl ?_; refine S_gsplit rfl rfl rfl rfl (fun c0_4 => ?_) (fun c0_4 => ?_) <;> (first | (simp [*] at c0_4; done) | (try simp at c0_4)); (focus (refine Sn rfl ?_; refine Sn rfl ?_; refine Sn rfl ?_; refine Sn rfl ?_; refine Sn rfl ?_; refine Sn rfl ?_; refine S_gu rfl rfl rfl rfl rfl rfl ?_; refine S_gu rfl rfl rfl rfl rfl rfl ?_; refine S_gu rfl rfl rfl rfl rfl rfl ?_; refine S_gu rfl rfl rfl rfl rfl rfl ?_; refine S_gu rfl rfl rfl rfl rfl rfl ?_; refine Sn rfl ?_; refine S_q rfl rfl rfl (Q_pick_t rfl rfl rfl) ?_; refine On ?_; refine cond_t rfl ?_; refine Wr ?_; refine Sm rfl ?_; refine On ?_; refine WP_ret ?_; refine then_r ?_)); rotate_left 1; (focus (refine S_gq rfl rfl rfl rfl rfl rfl (Q_fieldAddr rfl rfl (fld rfl rfl)) ?_; refine S_gload rfl rfl rfl rfl rfl rfl rfl rfl ?_; refine L_fld (Rd.own m1) (ty rfl) rfl ?_; refine S_gq rfl rfl rfl rfl rfl rfl (Q_fieldAddr rfl rfl (fld rfl rfl)) ?_; refine S_gload rfl rfl rfl rfl rfl rfl rfl rfl ?_; refine L_fld (Rd.own m0) (ty rfl) rfl ?_; refine S_gq rfl rfl rfl rfl rfl rfl (Q_cmp rfl rfl rfl rfl) ?_; refine S_gq rfl rfl rfl rfl rfl rfl (Q_move rfl rfl) ?_; refine S_gsplit rfl rfl rfl rfl (fun c0_5 => ?_) (fun c0_5 => ?_) <;> (first | (simp [*] at c0_5; done) | (try simp at c0_5)); (focus (refine S_gq rfl rfl rfl rfl rfl rfl (Q_fieldAddr rfl rfl (fld rfl rfl)) ?_; refine S_gload rfl rfl rfl rfl rfl rfl rfl rfl ?_; refine L_fld (Rd.own m1) (ty rfl) rfl ?_; refine S_gq rfl rfl rfl rfl rfl rfl (Q_fieldAddr rfl rfl (fld rfl rfl)) ?_; refine S_gload rfl rfl rfl rfl rfl rfl rfl rfl ?_; refine L_fld (Rd.own m0) (ty rfl) rfl ?_; refine S_gq rfl rfl rfl rfl rfl rfl (Q_cmp rfl rfl rfl rfl) ?_; refine S_gq rfl rfl rfl rfl rfl rfl (Q_pick_t rfl rfl rfl) ?_; refine S_q rfl rfl rfl (Q_pick_f rfl rfl rfl) ?_; refine On ?_; refine WP_cond rfl (fun c0_6 => ?_) (fun c0_6 => ?_) <;> (first | (simp [*] at c0_6; done) | (try simp at c0_6)); (focus (refine Wr ?_; refine Sm rfl ?_; refine On ?_; refine WP_ret ?_; refine then_r ?_)); rotate_left 1; (focus (refine WP_skip ?_; refine then_n ?_; refine Wr ?_; refine Sm rfl ?_; refine On ?_; refine WP_ret ?_)); rotate_left 1)); rotate_left 2; (focus (refine Sn rfl ?_; refine Sn rfl ?_; refine Sn rfl ?_; refine Sn rfl ?_; refine Sn rfl ?_; refine S_gq rfl rfl rfl rfl rfl rfl (Q_pick_f rfl rfl rfl) ?_; refine S_q rfl rfl rfl (Q_pick_f rfl rfl rfl) ?_; refine On ?_; refine cond_f rfl ?_; refine WP_skip ?_; refine then_n ?_; refine Wr ?_; refine Sm rfl ?_; refine On ?_; refine WP_ret ?_)); rotate_left 1)); rotate_left 3)); rotate_left 4))
  all_goals refine pret (.inl rfl) rfl ⟨_, _, rfl, rfl, rfl⟩ ?_
  all_goals (refine congrArg (Value.int .i64) ?_; simp only [cmpID, orI, cmpI]; grind)
end Go.Proofs.YtfhoecgiahpddaaGreat
/-
  RULES: an element of an owned slice is overwritten.
-/
set_option linter.all false
namespace Go.Mesh
open Go.RowKit
set_option linter.unusedVariables false
section
variable {α : Type} {h : Frag} {k e : Nat} {C : CR α} {v : Value} {xs : List α} {M : Hp}
theorem OS.cut1 (s : OS h e k C v xs M) (h0 : 0 < xs.length) : ∃ b cap us rest, v = .slice (some ⟨b, 0, none⟩) xs.length cap ∧ M = [(b, cells (us ++ rest) e)] ∧ xs.length ≤ cap ∧ us.length + rest.length = cap * k ∧ Flat h k C xs us := by
  obtain ⟨us, ⟨hu, ⟨rfl, h1, _⟩ | ⟨b, cap, rest, rfl, rfl, h2, h3⟩⟩, f⟩ := s
  · omega
  · exact ⟨b, cap, us, rest, rfl, rfl, h3, h2, f⟩
theorem OS.glue {b n cap : Nat} {us rest : List Value} (hn : n = xs.length) (hc : xs.length ≤ cap) (hl : us.length + rest.length = cap * k) (f : Flat h k C xs us) : OS h e k C (.slice (some ⟨b, 0, none⟩) n cap) xs [(b, cells (us ++ rest) e)] := by
  subst hn
  exact ⟨us, ⟨f.length, .inr ⟨b, cap, rest, rfl, rfl, hl, hc⟩⟩, f⟩
theorem Flat.set : ∀ {xs : List α} {us : List Value} {j : Nat} {y : α} {vs : List Value}, Flat h k C xs us → j < xs.length → vs.length = k → Mesh.ones vs = true → C h y vs → Flat h k C (xs.set j y) (putAt us (j * k) vs)
  | x :: xs, _, 0, y, vs, ⟨a, b, e1, e2, e3, e4, e5⟩, _, hl, ho, hc => by
    subst e1
    refine ⟨vs, b, ?_, hl, ho, hc, e5⟩
    simp [putAt, hl, ← e2]
  | x :: xs, _, j + 1, y, vs, ⟨a, b, e1, e2, e3, e4, e5⟩, hj, hl, ho, hc => by
    subst e1
    have ih := Flat.set (j := j) e5 (by simpa using hj) hl ho hc
    refine ⟨a, putAt b (j * k) vs, ?_, e2, e3, e4, ih⟩
    simp only [putAt, Nat.add_mul, Nat.one_mul, hl]
    have h1 : List.drop (j * k + k + k) a = [] := List.drop_eq_nil_of_le (by rw [e2]; omega)
    rw [List.take_append, List.drop_append, e2, List.take_of_length_le (by rw [e2]; omega), h1, show j * k + k - k = j * k by omega, show j * k + k + k - k = j * k + k by omega]
    simp
variable {P : Program} {r : Option Nat} {L : Hp} {fr : Fr} {o : Oper} {K : OCont} {j : Nat} {y : α}
/-- xs[j] = y -/
theorem W_setO {t : TypeId} {p z : Operand} {vs : List Value} (A B : Hp) (hos : OS h e k C v xs M) (hj : j < xs.length) (hop : o.op = .store t p z) (hp : ev fr p = some (ptr (blk v) (ofs v + j * k))) (hz : ev fr z = some (.agg vs.toArray)) (ht : tyOf P t = some (true, k)) (hvs : vs.length = k) (h1 : ones vs = true) (hy : C h y vs)
    (hL : L = A ++ (M ++ B)) (kk : ∀ M', OS h e k C v (xs.set j y) M' → K h (A ++ (M' ++ B)) undef) : OPw P r o fr h L K := by
  obtain ⟨b, cap, us, rest, rfl, rfl, hc, hlen, f⟩ := hos.cut1 (by omega)
  have hul := f.length
  have hle : j * k + k ≤ us.length := by
    have : (j + 1) * k ≤ xs.length * k := Nat.mul_le_mul_right _ hj
    rw [Nat.add_mul, Nat.one_mul] at this
    rw [hul]; exact this
  have hput : putAt (us ++ rest) (0 + j * k) vs = putAt us (j * k) vs ++ rest := by
    rw [Nat.zero_add]
    simp only [putAt, hvs]
    rw [List.take_append_of_le_length (by omega), List.drop_append_of_le_length (by omega)]
    simp
  have hfs := f.set hj hvs h1 hy
  have hpl : (putAt us (j * k) vs).length = us.length := putAt_length (by rw [hvs]; exact hle)
  have hos' : OS h e k C (.slice (some ⟨b, 0, none⟩) xs.length cap) (xs.set j y) [(b, cells (putAt us (j * k) vs ++ rest) e)] := OS.glue (by simp) (by simpa using hc) (by rw [hpl]; exact hlen) hfs
  refine W_put (v := .agg vs.toArray) (vs := vs) (l := us ++ rest) (bt := e) (b := b) (off := 0 + j * k) hop hp hz rfl ht hvs h1 (L' := A ++ ([(b, cells (putAt us (j * k) vs ++ rest) e)] ++ B)) ?_ ?_ (kk _ hos')
  · rw [hput, hL]
    exact ⟨A, B, by simp, by simp⟩
  · simp only [List.length_append, hvs]; omega
end
end Go.Mesh
/-
  RULES: a block behind appended blocks; a block of one element.
-/
set_option linter.all false
namespace Go.Mesh
open Go.RowKit
theorem mAp {α : Type} {x : α} {M L : List α} (h : x ∈ L) : x ∈ M ++ L := List.mem_append.2 (.inr h)
theorem OS.one1 (h : Frag) (e k : Nat) {α : Type} {C : CR α} {b : Nat} {y : α} {us : List Value} (hl : us.length = k) (ho : ones us = true) (hy : C h y us) : OS h e k C (.slice (some ⟨b, 0, none⟩) 1 1) [y] [(b, cells us e)] := by
  unfold OS
  exact ⟨us, Row.lit (by simpa using hl), Flat.one hl ho hy⟩
theorem perm2 {α : Type} {a b : α} : List.Perm [a, b] [b, a] := List.reverse_perm [b, a]
theorem perm3 {α : Type} {a b c : α} : List.Perm [a, b, c] [c, b, a] := List.reverse_perm [c, b, a]
/-- a cut behind a piece of code: what is known there, what is owned, the slots -/
theorem WP_cutS {α : Type} {P : Program} {r : Option Nat} {N : Nat} {h : Frag} {L : Hp} {D : List Nat} {fr : Fr} {Q : Post} {x y : Code} (Inv : Frag → α → Prop) (Lf : α → Hp) (ff : α → Fr)
    (hx : WP P r N x h L D fr (fun e h' L' D' fr' => e = .normal ∧ D' = D ∧ ∃ a, Inv h' a ∧ List.Sublist (Lf a) L' ∧ FrSub (ff a) fr'))
    (k : ∀ h' a, le h h' → Inv h' a → WP P r N y h' (Lf a) D (ff a) Q) : WP P r N (.seq x y) h L D fr Q := by
  refine WP_seq (WP.mono hx ?_)
  rintro e h' L' D' fr' hl ⟨rfl, rfl, a, hi, hs, hf⟩
  exact WP.drop hs (WP.sub hf (k h' a hl hi))
end Go.Mesh
/-
  A REGION THAT DRAWS ITS ORDER, SECOND PART: an operation that reads only what nobody writes may be taken first whatever the others do; two operations that are ready at once.
-/
set_option linter.all false
namespace Go.Mesh
open Go.RowKit
set_option linter.unusedVariables false
section
variable {P : Program} {r : Option Nat} {N : Nat} {D : List Nat} {ops : Array Oper}
def tameOp : Op → Bool
  | .defer _ => false
  | .select .. => false
  | _ => true
theorem tameOp_defer {o : Op} (h : tameOp o = true) : ∀ c, o ≠ .defer c := fun c e => by subst e; cases h
theorem tameOp_select {o : Op} (h : tameOp o = true) : ∀ c b, o ≠ .select c b := fun c b e => by subst e; cases h
theorem sees_pers {h h' : Frag} {L' : Hp} (hl : le h h') (w : World) (s : Sees h' L' w) : Sees h [] w := ⟨fun b o e => s.pers b o (hl b o e), by simp⟩
theorem STEPa_putP {j : Nat} {oi oj : Oper} {v : Value} {a : Act} {h0 h : Frag} {L : Hp} {KK : Act → Frag → Hp → Prop} (h00 : le h0 h) (hj : ops[j]? = some oj) (hap : oi.apart ops oj = true) (hcj : tameOp oj.op = true) (hsi : ∀ cs b, oi.op ≠ .select cs b)
    (y : Yv P ops oi v a h0 []) (x : STEPa P r ops j (a.put oi.dst v) h L KK) : STEPa P r ops j a h L (fun a' h' L' => le h0 h' ∧ Yv P ops oi v a' h0 [] ∧ KK (a'.put oi.dst v) h' L') := by
  obtain ⟨h1, h2, h3⟩ := Oper.apart_spec hap
  unfold STEPa at *
  simp only [hj] at *
  rw [wanted_put oj a oi.dst v h1] at x
  split
  · rename_i hw
    simp only [hw, if_true] at x
    intro w hh
    have xx := x w hh
    refine ⟨fun _ _ => trivial, ?_⟩
    have hx := xx.2
    rw [Oper.semAt_eq _ _ _ (tameOp_defer hcj)] at hx ⊢
    rw [execOp_put oj (tameOp_select hcj) a oi.dst v h1] at hx
    have key : ∀ (u : Value) (w' : World), (∃ h' L', KK ((a.put oi.dst v).put oj.dst u) h' L' ∧ Ext h L w h' L' w' ∧ (calmOp oj.op = true → ∀ w1, Sees h' L' w1 → Sees h L w1)) →
        ∃ h' L', (le h0 h' ∧ Yv P ops oi v (a.put oj.dst u) h0 [] ∧ KK ((a.put oj.dst u).put oi.dst v) h' L') ∧ Ext h L w h' L' w' ∧ (calmOp oj.op = true → ∀ w1, Sees h' L' w1 → Sees h L w1) := by
      rintro u w' ⟨h', L', k, e, hc⟩
      refine ⟨h', L', ⟨le_trans h00 e.le, y.keep hsi h3 (fun _ s => s), ?_⟩, e, hc⟩
      rw [← Act.put_comm a v u h2]; exact k
    revert hx
    cases hres : (execOp a.eval oj).run P w with
    | ok z w' =>
      intro hx
      cases z <;> simp only [Oper.uponIn] at hx ⊢ <;>
        first
          | exact key _ _ hx
          | exact ⟨hx.1, CallsIn.mono hx.2 (fun e w'' he => by cases e <;> first | exact key _ _ he | exact he)⟩
          | exact ⟨hx.1, RowsIn.mono hx.2 (fun _ _ he => key _ _ he)⟩
          | exact ⟨hx.1, RoundIn.mono hx.2 (fun e w'' he => by cases e <;> first | exact key _ _ he | exact he)⟩
          | skip
      case defer d =>
        rw [Act.defers_put, Act.put_defers] at hx
        obtain ⟨h', L', k, e, hc⟩ := hx
        refine ⟨h', L', ⟨le_trans h00 e.le, ?_, ?_⟩, e, hc⟩
        · exact Yv.keep (a := { a with defers := d :: a.defers }) hsi h3 y (fun _ s => s)
        · rw [← Act.put_comm { a with defers := d :: a.defers } v undef h2]; exact k
    | halt z w' =>
      intro hx
      cases z <;> simp only [Oper.uponIn] at hx ⊢ <;> exact hx
  · rename_i hw
    simp only [hw] at x
    exact ⟨h00, y.keep hsi h3 (fun _ s => s), by rw [← Act.put_comm a v undef h2]; exact x⟩
theorem YvP.step {i : Nat} {o : Oper} {v : Value} {a : Act} {h0 h : Frag} {L : Hp} {KK : Act → Frag → Hp → Prop} (h00 : le h0 h) (hi : ops[i]? = some o) (y : Yv P ops o v a h0 []) (k : KK (a.put o.dst v) h L) : STEPa P r ops i a h L KK := by
  refine Yv.step hi ?_ k
  exact y.imp (fun ⟨a1, a2, a3⟩ => ⟨a1, a2, fun w hw => a3 w (sees_pers h00 w hw)⟩) id
theorem ANYa_firstP {E : Act → Frag → Hp → Prop} {h0 : Frag} {i : Nat} {oi : Oper} {v : Value} (hi : ops[i]? = some oi) (hsi : ∀ cs b, oi.op ≠ .select cs b) :
    ∀ (fuel : Nat) (listed : Array Bool) (a : Act) (h : Frag) (L : Hp), le h0 h → Closed ops listed →
      (∀ j oj, ops[j]? = some oj → j ≠ i → listed.getD j true = false → anc ops i ops.size j = false → oi.apart ops oj = true ∧ tameOp oj.op = true) →
      i ∈ Region.ready .any ops listed → Yv P ops oi v a h0 [] → ANYa P r ops E fuel (listed.setIfInBounds i true) (a.put oi.dst v) h L → ANYa P r ops E (fuel + 1) listed a h L := by
  intro fuel
  induction fuel with
  | zero =>
    intro listed a h L h00 _ _ hr hy H
    refine ⟨fun e => (by rw [e] at hr; cases hr), fun j hj => ?_⟩
    by_cases hji : j = i
    · subst hji; exact YvP.step h00 hi hy H
    · have := ready_mono hj hji
      rw [H.1] at this
      cases this
  | succ fuel ih =>
    intro listed a h L h00 hc hfree hr hy H
    refine ⟨fun e => (by rw [e] at hr; cases hr), fun j hj => ?_⟩
    by_cases hji : j = i
    · subst hji; exact YvP.step h00 hi hy H
    · have h1 := H.2 j (ready_mono hj hji)
      obtain ⟨hjun, oj, hoj, hall⟩ := mem_ready.1 hj
      have hiun := (mem_ready.1 hr).1
      have hnl : listed.getD i false ≠ true := fun e => by
        rcases Nat.lt_or_ge i listed.size with h' | h'
        · simp [h'] at hiun e; rw [hiun] at e; cases e
        · simp [Array.getElem?_eq_none h'] at e
      have hanc : anc ops i ops.size j = false := by
        cases ha : anc ops i ops.size j with
        | false => rfl
        | true => exact absurd (anc_listed hc _ _ oj hoj hall ha) hnl
      obtain ⟨hap, hcj⟩ := hfree j oj hoj hji hjun hanc
      have h2 := STEPa_putP h00 hoj hap hcj hsi hy h1
      have hc' : Closed ops (listed.setIfInBounds j true) := by
        intro k o ho hl e he hb
        by_cases hjk : j = k
        · subst hjk
          rw [hoj] at ho; cases ho
          exact getD_set_true (hall e he hb)
        · rw [getD_set_ne false hjk] at hl
          exact getD_set_true (hc k o ho hl e he hb)
      have hfree' : ∀ k ok, ops[k]? = some ok → k ≠ i → (listed.setIfInBounds j true).getD k true = false → anc ops i ops.size k = false → oi.apart ops ok = true ∧ tameOp ok.op = true := fun k ok hk hki hun hno => by
        refine hfree k ok hk hki ?_ hno
        by_cases hjk : j = k
        · subst hjk; exact hjun
        · rw [getD_set_ne true hjk] at hun; exact hun
      refine STEPa.mono (fun a' h' L' h3 => ih (listed.setIfInBounds j true) a' h' L' h3.1 hc' hfree' (ready_mono hr (Ne.symm hji)) h3.2.1 ?_) h2
      rw [Array.setIfInBounds_comm _ _ hji]
      exact h3.2.2
/-- i may be taken first, if it reads only what nobody writes -/
def firstP (ops : Array Oper) (listed : Array Bool) (i : Nat) : Bool :=
  closedB ops listed && (match ops[i]? with
    | none => false
    | some oi => tameOp oi.op && (List.range ops.size).all fun j => j == i || listed.getD j true || anc ops i ops.size j || (match ops[j]? with | none => true | some oj => oi.apart ops oj && tameOp oj.op)) && (Region.ready .any ops listed).contains i
variable {h : Frag} {L : Hp} {fr : Fr} {C : Frag → Hp → Fr → Prop} {fuel n m m' : Nat} {l : List Oper} {o : Oper}
theorem firstP_parts {listed : Array Bool} {i : Nat} {o : Oper} (hi : ops[i]? = some o) (hf : firstP ops listed i = true) : Closed ops listed ∧ (∀ cs b, o.op ≠ .select cs b) ∧ i ∈ Region.ready .any ops listed ∧
    (∀ j oj, ops[j]? = some oj → j ≠ i → listed.getD j true = false → anc ops i ops.size j = false → o.apart ops oj = true ∧ tameOp oj.op = true) := by
  unfold firstP at hf
  simp only [Bool.and_eq_true, hi] at hf
  obtain ⟨⟨h1, h2, h3⟩, h4⟩ := hf
  refine ⟨closed_of h1, tameOp_select h2, by simpa using h4, fun j oj hj hne hun han => ?_⟩
  rw [List.all_eq_true] at h3
  have := h3 j (List.mem_range.2 (Array.getElem?_eq_some_iff.1 hj).1)
  simp only [hj, hun, han, Bool.or_false, Bool.or_eq_true, beq_iff_eq, Bool.and_eq_true] at this
  rcases this with h | h
  · exact absurd h hne
  · exact h
theorem A_qp {v : Value} {d i : Nat} (hd : o.dst = some d) (hN : Nat.blt d N = true) (hg : o.guard = none) (q : QOP P o fr h [] v) (hm : m ||| 2 ^ i = m') (hf : firstP l.toArray (lst n m) i = true)
    (x : ANY P r N D l.toArray fuel (lst n m') h L ((d, v) :: fr) C) : ANYo P r N D l (fuel + 1) n m i o h L fr C := by
  intro hi a fa
  obtain ⟨h1, h2, h3, h4⟩ := firstP_parts hi hf
  have x' := x (a.put o.dst v) (by have := fa.put (dst := o.dst) (dstOk_of hd hN) v; rw [hd] at this ⊢; exact this)
  rw [← lst_set hm] at x'
  exact ANYa_firstP (h0 := h) hi h2 fuel (lst n m) a h L (le_refl _) h1 h4 h3 (.inl ⟨by simp [Region.wanted, hg], q.1, q.2 a (fun _ _ e => fa.eval e)⟩) x'
theorem A_loadp {d i b off : Nat} {t : TypeId} {p : Operand} (hop : o.op = .load t p) (hp : ev fr p = some (ptr b off)) (hd : o.dst = some d) (hN : Nat.blt d N = true) (hg : o.guard = none) (hm : m ||| 2 ^ i = m') (hf : firstP l.toArray (lst n m) i = true)
    (x : LG P h [] b off t (fun v => ANY P r N D l.toArray fuel (lst n m') h L ((d, v) :: fr) C)) : ANYo P r N D l (fuel + 1) n m i o h L fr C :=
  let ⟨_, q, k⟩ := x; A_qp hd hN hg (Q_loadL hop hp q) hm hf k
/-- two are ready: each may be the next -/
theorem A_two (i j : Nat) {oi oj : Oper} {mi mj : Nat} (hi : nth l i = some oi) (hj : nth l j = some oj) (hr : Region.ready .any l.toArray (lst n m) = [i, j]) (hmi : m ||| 2 ^ i = mi) (hmj : m ||| 2 ^ j = mj)
    (x : STEP P r N D l.toArray i h L fr (fun h' L' fr' => ANY P r N D l.toArray fuel (lst n mi) h' L' fr' C)) (y : STEP P r N D l.toArray j h L fr (fun h' L' fr' => ANY P r N D l.toArray fuel (lst n mj) h' L' fr' C)) : ANY P r N D l.toArray (fuel + 1) (lst n m) h L fr C :=
  have _ := hi
  have _ := hj
  ANY_two i j hr (by rw [lst_set hmi]; exact x) (by rw [lst_set hmj]; exact y)
theorem T_c {d i : Nat} (hi : nth l i = some o) (hd : o.dst = some d) (hN : Nat.blt d N = true) (hg : o.guard = none) {C' : Frag → Hp → Fr → Prop} (x : OPc P r o fr h L (fun h' M v => C' h' (M ++ L) ((d, v) :: fr))) : STEP P r N D l.toArray i h L fr C' :=
  STEP_c (by rw [nth_eq] at hi; simpa using hi) hg (dstOk_of hd hN) (by rw [hd]; exact x)
theorem T_w {d i : Nat} (hi : nth l i = some o) (hd : o.dst = some d) (hN : Nat.blt d N = true) (hg : o.guard = none) (hc : calmOp o.op = false) {C' : Frag → Hp → Fr → Prop} (x : OPw P r o fr h L (fun h' L' v => C' h' L' ((d, v) :: fr))) : STEP P r N D l.toArray i h L fr C' :=
  STEP_w (by rw [nth_eq] at hi; simpa using hi) hg hc (dstOk_of hd hN) (by rw [hd]; exact x)
/-- owned blocks that an operation only reads -/
theorem OPw_keepM {K : OCont} (A M B : Hp) (hL : L = A ++ (M ++ B)) (x : ∀ h', le h h' → (∀ p, p ∈ M → h' p.1 = some p.2) → OPw P r o fr h' (A ++ B) K) : OPw P r o fr h L K := by
  subst hL
  intro a ha w hw
  obtain ⟨h', e0, hm⟩ := keepAt hw
  exact Oper.wpIn_mono (fun _ _ ⟨h2, L', v, e, k, e1⟩ => ⟨h2, L', v, e, k, e0.trans e1⟩) (x h' e0.le hm a ha w e0.holds)
end
end Go.Mesh
/-
  A REGION THAT DRAWS ITS ORDER, THIRD PART: owned blocks that are only read from here on.
-/
set_option linter.all false
namespace Go.Mesh
open Go.RowKit
set_option linter.unusedVariables false
section
variable {P : Program} {r : Option Nat} {N : Nat} {D : List Nat} {ops : Array Oper} {h : Frag} {L : Hp} {fr : Fr} {C : Frag → Hp → Fr → Prop} {fuel : Nat} {listed : Array Bool}
def readyG (ops : Array Oper) (listed : Array Bool) : Bool :=
  !(Region.ready .any ops listed).isEmpty && (Region.ready .any ops listed).all fun i => match ops[i]? with
    | some o => o.guard.isNone
    | none => false
theorem ANY_keepM' (hr : readyG ops listed = true) (A M B : Hp) (hL : L = A ++ (M ++ B)) (x : ∀ h', le h h' → (∀ p, p ∈ M → h' p.1 = some p.2) → ANY P r N D ops (fuel + 1) listed h' (A ++ B) fr C) : ANY P r N D ops (fuel + 1) listed h L fr C := by
  subst hL
  intro a fa
  unfold readyG at hr
  rw [Bool.and_eq_true, List.all_eq_true] at hr
  refine ⟨fun e => by rw [e] at hr; simp at hr, fun i hi => ?_⟩
  have hg := hr.2 i hi
  unfold STEPa
  cases ho : ops[i]? with
  | none => rw [ho] at hg; cases hg
  | some o =>
    simp only [ho] at hg ⊢
    have hg' : o.guard = none := by simpa using hg
    simp only [Region.wanted, hg', if_true]
    intro w hw
    obtain ⟨h', e0, hm⟩ := keepAt hw
    have y := (x h' e0.le hm a fa).2 i hi
    unfold STEPa at y
    simp only [ho, Region.wanted, hg', if_true] at y
    refine Oper.wpIn_mono (fun a' w' ⟨h2, L2, k, e, hc⟩ => ⟨h2, L2, k, e0.trans e, fun hcalm w1 s => ?_⟩) (y w e0.holds)
    have s1 := hc hcalm w1 s
    refine ⟨fun b o' hb => s1.pers b o' (e0.le b o' hb), fun p hp => ?_⟩
    rcases List.mem_append.1 hp with h1 | h1
    · exact s1.own p (by simp [h1])
    · rcases List.mem_append.1 h1 with h1 | h1
      · exact s1.pers _ _ (hm p h1)
      · exact s1.own p (by simp [h1])
/-- the step of the operation at a place -/
def STEPo (P : Program) (r : Option Nat) (N : Nat) (D : List Nat) (l : List Oper) (i : Nat) (o : Oper) (h : Frag) (L : Hp) (fr : Fr) (C : Frag → Hp → Fr → Prop) : Prop := nth l i = some o → STEP P r N D l.toArray i h L fr C
variable {l : List Oper} {o : Oper} {i d : Nat} {C' : Frag → Hp → Fr → Prop}
theorem T_at (hi : nth l i = some o) (x : STEPo P r N D l i o h L fr C') : STEP P r N D l.toArray i h L fr C' := x hi
theorem T_cO (hd : o.dst = some d) (hN : Nat.blt d N = true) (hg : o.guard = none) (x : OPc P r o fr h L (fun h' M v => C' h' (M ++ L) ((d, v) :: fr))) : STEPo P r N D l i o h L fr C' := fun hi => T_c hi hd hN hg x
theorem T_wO (hd : o.dst = some d) (hN : Nat.blt d N = true) (hg : o.guard = none) (hc : calmOp o.op = false) (x : OPw P r o fr h L (fun h' L' v => C' h' L' ((d, v) :: fr))) : STEPo P r N D l i o h L fr C' := fun hi => T_w hi hd hN hg hc x
end
end Go.Mesh
/-
  CONTRACTS: observer.plain.
-/
set_option linter.all false
namespace Go.Proofs.YtfhoecgiahpddaaGreat
open Go.Mesh Go.RowKit
set_option maxRecDepth 100000
set_option linter.unusedVariables false
set_option maxHeartbeats 4000000
attribute [local irreducible] WP OPS ANY ANYo LG LV FSpec PSpec QOP OPc OPw thenQ blockQ roundQ roundF retQ retM Rd At SLB OS cmpI orI cmpID namedB valB nodeB kindB validG valAux idxI findG zeroV viewOf vwAt idxOf recv flyB scionOf moveOf numberedOf idOf valueOf mget mput localB carriedB msgB sizesB smallV fewB stubOf followF followOf flOf flightsOf flPre
theorem cloneValsO_s {h : Frag} {a : Value} {xs : List Val} (hx : SL h 4 ValC a xs) : FSpec Tryz.prog 92 #[a] h [] (fun h' L' v => ∃ p c, v = .slice p xs.length c ∧ OS h' 42 4 ValC (.slice p xs.length c) xs L') := by
  have hxl := hx.le
  obtain ⟨p, cap, rfl⟩ := hx.slice
  refine spec_of (vs := [.slice p xs.length cap]) Tryz.func92 Tryz.ntmps92 rfl rfl rfl ?_
  (focus (refine Wr ?_; refine Sm rfl ?_; refine On ?_; refine WP_seq ?_; refine Wr ?_; refine Sm rfl ?_; refine S_q rfl rfl rfl (Q_eqNil rfl rfl rfl rfl) ?_; refine On ?_; refine WP_cond rfl (fun c0_1 => ?_) (fun c0_1 => ?_) <;> (first | (simp [*] at c0_1; done) | (try simp at c0_1)); (focus (refine Wr ?_; refine Sm rfl ?_; refine On ?_; refine WP_ret ?_; refine then_r ?_)); rotate_left 1; (focus (refine WP_skip ?_; refine then_n ?_; refine Wr ?_; refine S_c rfl rfl rfl (C_buildSlice rfl (elm rfl) (zer rfl) rfl rfl rfl rfl ?_); intro b0_2; refine Sm rfl ?_; refine S_w rfl rfl rfl (W_appS [] _ (OS.lit0 _ _ _ _ _) ‹_› rfl rfl rfl rfl rfl rfl (elm rfl) (zer rfl) rfl rfl (by (try simp only [lA]); omega) (by (try simp only [lA]); omega) ?_); rintro p0_3 q0_3 m0_3 o0_3; refine Sm rfl ?_; refine On ?_; refine WP_ret ?_)); rotate_left 1))
  · subst c0_1
    have hn : xs = [] := hx.none_nil
    subst hn
    exact ret_q [] (.inl rfl) rfl ⟨_, _, rfl, rfl, rfl⟩ (List.Sublist.refl _) ⟨_, _, rfl, OS.nil _ _ _ _⟩
  · exact ret_q m0_3 (.inl rfl) rfl ⟨_, _, rfl, rfl, rfl⟩ (by repeat' first | exact sR _ | exact sA _ _ | exact sN _ | apply s2 | apply s1) ⟨_, _, rfl, o0_3⟩
/-- a field, where what is not reached counts as nil -/
noncomputable def plainV (kd : Int) (live : List ID) (v : Val) : Val := if kd = 2 ∧ v.1 = 2 ∧ v.2.2 ∉ live then (0, 0, (0, 0)) else v
noncomputable def plainN (live : List ID) (n : Nd) : Nd := ⟨n.id, n.kind, n.cls, n.fields.map (plainV n.kind live)⟩
theorem plainN_def (live : List ID) (i : ID) (kd cl : Int) (fs : List Val) : plainN live ⟨i, kd, cl, fs⟩ = ⟨i, kd, cl, fs.map (plainV kd live)⟩ := rfl
/-- the first j fields made plain -/
noncomputable def plainTo (kd : Int) (live : List ID) (fs : List Val) (j : Nat) : List Val := (fs.take j).map (plainV kd live) ++ fs.drop j
theorem plainTo_zero (kd : Int) (live : List ID) (fs : List Val) : plainTo kd live fs 0 = fs := by simp [plainTo]
theorem plainTo_end (kd : Int) (live : List ID) (fs : List Val) : plainTo kd live fs fs.length = fs.map (plainV kd live) := by simp [plainTo]
theorem plainTo_len (kd : Int) (live : List ID) (fs : List Val) (j : Nat) : (plainTo kd live fs j).length = fs.length := by simp [plainTo]; omega
theorem plainTo_get {kd : Int} {live : List ID} {fs : List Val} {j : Nat} {x : Val} (hx : fs[j]? = some x) : (plainTo kd live fs j)[j]? = some x := by
  have hlt := (List.getElem?_eq_some_iff.1 hx).1
  have hl : ((fs.take j).map (plainV kd live)).length = j := by simp; omega
  rw [plainTo, List.getElem?_append_right (by omega), hl, Nat.sub_self, drop_get hx]; rfl
theorem plainTo_yes {kd : Int} {live : List ID} {fs : List Val} {j : Nat} {x : Val} (hx : fs[j]? = some x) (hp : kd = 2 ∧ x.1 = 2 ∧ x.2.2 ∉ live) : plainTo kd live fs (j + 1) = (plainTo kd live fs j).set j (0, 0, (0, 0)) := by
  have hlt := (List.getElem?_eq_some_iff.1 hx).1
  have hl : ((fs.take j).map (plainV kd live)).length = j := by simp; omega
  have hv : plainV kd live x = (0, 0, (0, 0)) := by rw [plainV, if_pos hp]
  rw [plainTo, plainTo, drop_get hx, List.set_append_right _ _ (by omega), hl, Nat.sub_self, List.take_add_one, hx]
  simp [hv]
theorem plainTo_no {kd : Int} {live : List ID} {fs : List Val} {j : Nat} {x : Val} (hx : fs[j]? = some x) (hp : ¬ (kd = 2 ∧ x.1 = 2 ∧ x.2.2 ∉ live)) : plainTo kd live fs (j + 1) = plainTo kd live fs j := by
  have hv : plainV kd live x = x := by rw [plainV, if_neg hp]
  rw [plainTo, plainTo, drop_get hx, List.take_add_one, hx]
  simp [hv]
attribute [local irreducible] plainV plainN plainTo
theorem plain_s {h : Frag} {n : Nd} {us : List Value} {a : Value} {live : List ID} (hn : NodeC 4398046511104 h n us) (hl : SL h 2 IDC a live) : PSpec Tryz.prog 74 #[.agg us.toArray, a] h
    (fun h' v => ∃ p c, v = .agg #[.slice p 1 c] ∧ GraphC 4398046511104 h' [plainN live n] [.slice p 1 c]) := by
  obtain ⟨p, c, rfl, hf⟩ := hn
  obtain ⟨⟨i1, i2⟩, kd, cl, fs⟩ := n
  obtain ⟨pl, ql, rfl⟩ := hl.slice
  simp only at hf
  have hfl := hf.le
  refine pspec_of (vs := [.agg [Value.int .i64 i1, .int .i64 i2, .int .i64 kd, .int .i64 cl, .slice p fs.length c].toArray, .slice pl live.length ql]) Tryz.func74 Tryz.ntmps74 rfl rfl ?_
  (focus (refine Wr ?_; refine S_c rfl rfl rfl (C_box rfl rfl ?_); intro b0_1; refine S_c rfl rfl rfl (C_alloc rfl (zer rfl) ?_); intro b0_2; refine On ?_; refine Wr ?_; refine Sf rfl rfl rfl rfl rfl (fld rfl rfl) ?_; refine S_load rfl rfl rfl rfl rfl ?_; refine L_fld (Rd.own m1) (ty rfl) rfl ?_; refine S_c rfl rfl rfl (C_callF (cloneValsO_s ‹_›) rfl rfl ⟨_, _, rfl, rfl, rfl⟩ (cal rfl) ?_); rintro h0_3 m0_3 _ l0_3 ⟨p0_3, q0_3, rfl, o0_3⟩; replace hf := hf.up l0_3; replace hl := hl.up l0_3; refine Sf rfl rfl rfl rfl rfl (fld rfl rfl) ?_; refine S_w0 rfl rfl (W_fld rfl rfl rfl (ty rfl) (Upd.skip _ u1) rfl rfl rfl rfl ?_); refine On ?_; refine WP_seq ?_; refine Wr ?_; refine Sf rfl rfl rfl rfl rfl (fld rfl rfl) ?_; refine S_load rfl rfl rfl rfl rfl ?_; refine L_fld (Rd.own (mAp m1)) (ty rfl) rfl ?_; refine S_q rfl rfl rfl (Q_len rfl rfl rfl rfl rfl rfl) ?_; refine Sm rfl ?_; refine On ?_; refine WP_block ?_))
  refine WP.perm (L2 := (b0_1, cells [Value.int .i64 i1, Value.int .i64 i2, Value.int .i64 kd, Value.int .i64 cl, .slice p0_3 fs.length q0_3] 38) :: (b0_2, cells [.slice none 0 0] 27) :: (m0_3 ++ [])) ?_ ?_
  · rw [List.append_nil]
    exact (List.Perm.swap _ _ _).trans (List.perm_append_comm (l₁ := [_, _]))
  (focus (refine WP_keepM [] [_] _ rfl ?_; rintro h1_k l1_k k1_k; have a1_k := at_of_keep k1_k; clear k1_k; replace o0_3 := o0_3.up l1_k; replace hf := hf.up l1_k; replace hl := hl.up l1_k))
  (refine WP_loopF (α := Nat × Hp) [13, 12, 4, 2, 1] (fun (s : Nat × Hp) => fs.length - s.1) (fun (s : Nat × Hp) => (b0_2, cells [.slice none 0 0] 27) :: (s.2 ++ [])) (fun (s : Nat × Hp) => [(14, .int .i64 (s.1 : Int))]) (fun hh (s : Nat × Hp) => hh = h1_k ∧ s.1 ≤ fs.length ∧ OS h1_k 42 4 ValC (.slice p0_3 fs.length q0_3) (plainTo kd live fs s.1) s.2) (0, m0_3) ⟨_, _, rfl, ⟨_, _, rfl, ⟨_, _, rfl, ⟨_, _, rfl, ⟨_, _, rfl, rfl, rfl⟩, rfl⟩, rfl⟩, rfl⟩, rfl⟩ ?_ (by repeat' first | exact sR _ | exact sA _ _ | exact sN _ | apply s2 | apply s1) (by repeat' first | exact trivial | refine ⟨rfl, ?_⟩) ?_)
  · exact ⟨rfl, Nat.zero_le _, by rw [plainTo_zero]; exact o0_3⟩
  clear o0_3
  rintro h1 ⟨j, M⟩ _ ⟨rfl, hj, hO⟩
  simp only at hj hO
  dsimp only
  have hpl := plainTo_len kd live fs j
  by_cases hlt : j < fs.length
  · obtain ⟨⟨x1, x2, x3, x4⟩, ex⟩ := get_of hlt
    have hpg := plainTo_get (kd := kd) (live := live) ex
    (focus (refine Wr ?_; refine Sc rfl rfl rfl rfl rfl rfl rfl ?_; refine On ?_; refine WP_seq ?_; refine WP_cond rfl (fun c3_1 => ?_) (fun c3_1 => ?_) <;> (first | (simp [*] at c3_1; done) | (try simp at c3_1)); refine WP_skip ?_; refine then_n ?_; refine WP_seq ?_; refine WP_block ?_; refine Wr ?_; refine Sm rfl ?_; refine S_q rfl rfl rfl (Q_indexO ‹_› ‹_› rfl rfl rfl (elm rfl) rfl) ?_; refine S_load rfl rfl rfl rfl rfl ?_; refine L_oelA [_] _ ‹_› ‹_› rfl (ty rfl) ?_; rintro _ _ _ rfl; refine S_c rfl rfl rfl (C_alloc rfl (zer rfl) ?_); intro b3_3; refine Sm rfl ?_; refine S_w0 rfl rfl (W_all rfl rfl rfl (ty rfl) u0 (by first | rfl | assumption) (by first | rfl | assumption) (by first | rfl | assumption | exact ones_sub ‹_› _ _) ?_); refine On ?_; refine Wr ?_; refine Sf rfl rfl rfl rfl rfl (fld rfl rfl) ?_; refine S_load rfl rfl rfl rfl rfl ?_; refine L_fld (Rd.pers ‹_›) (ty rfl) rfl ?_; refine Sc rfl rfl rfl rfl rfl rfl rfl ?_; refine Sm rfl ?_; refine S_gsplit rfl rfl rfl rfl (fun c3_4 => ?_) (fun c3_4 => ?_) <;> (first | (simp [*] at c3_4; done) | (try simp at c3_4)); (focus (refine S_gq rfl rfl rfl rfl rfl rfl (Q_fieldAddr rfl rfl (fld rfl rfl)) ?_; refine S_gload rfl rfl rfl rfl rfl rfl rfl rfl ?_; refine L_fld (Rd.own m0) (ty rfl) rfl ?_; refine S_gq rfl rfl rfl rfl rfl rfl (Q_cmp rfl rfl rfl rfl) ?_; refine S_q rfl rfl rfl (Q_pick_t rfl rfl rfl) ?_; refine Sm rfl ?_; refine S_gsplit rfl rfl rfl rfl (fun c3_5 => ?_) (fun c3_5 => ?_) <;> (first | (simp [*] at c3_5; done) | (try simp at c3_5)); (focus (refine S_gq rfl rfl rfl rfl rfl rfl (Q_move rfl rfl) ?_; refine S_gq rfl rfl rfl rfl rfl rfl (Q_fieldAddr rfl rfl (fld rfl rfl)) ?_; refine S_gload rfl rfl rfl rfl rfl rfl rfl rfl ?_; refine L_sub (Rd.own m0) (ty rfl) rfl ?_; refine S_gc rfl rfl rfl rfl rfl rfl (C_callv (has_s (x := (_, _)) ‹_›) rfl rfl ⟨_, _, rfl, ⟨_, _, rfl, rfl, rfl⟩, rfl⟩ (cal rfl) ?_); refine S_gq rfl rfl rfl rfl rfl rfl (Q_not rfl rfl) ?_; refine S_q rfl rfl rfl (Q_pick_t rfl rfl rfl) ?_; refine On ?_; refine WP_cond rfl (fun c3_6 => ?_) (fun c3_6 => ?_) <;> (first | (simp [*] at c3_6; done) | (try simp at c3_6)); (focus (refine R_region ?_; refine Sf rfl rfl rfl rfl rfl (fld rfl rfl) ?_; refine S_load rfl rfl rfl rfl rfl ?_; refine L_fld (Rd.pers ‹_›) (ty rfl) rfl ?_; refine Sm rfl ?_; refine S_q rfl rfl rfl (Q_build rfl (by decide +kernel) (zer rfl) rfl rfl) ?_; refine S_q rfl rfl rfl (Q_indexO ‹_› ‹_› rfl rfl rfl (elm rfl) rfl) ?_)); rotate_left 1; (focus (refine WP_skip ?_; refine block_n ?_; refine then_n ?_; refine R_region ?_; refine S_q rfl rfl rfl (Q_add rfl rfl rfl (by omega)) ?_; refine Sm rfl ?_; refine OPS_nil ?_)); rotate_left 1)); rotate_left 2; (focus (refine Sn rfl ?_; refine Sn rfl ?_; refine Sn rfl ?_; refine Sn rfl ?_; refine Sn rfl ?_; refine S_q rfl rfl rfl (Q_pick_f rfl rfl rfl) ?_; refine On ?_; refine cond_f rfl ?_; refine WP_skip ?_; refine block_n ?_; refine then_n ?_; refine R_region ?_; refine S_q rfl rfl rfl (Q_add rfl rfl rfl (by omega)) ?_; refine Sm rfl ?_; refine OPS_nil ?_)); rotate_left 1)); rotate_left 3; (focus (refine Sn rfl ?_; refine Sn rfl ?_; refine Sn rfl ?_; refine S_q rfl rfl rfl (Q_pick_f rfl rfl rfl) ?_; refine Sm rfl ?_; refine Sn rfl ?_; refine Sn rfl ?_; refine Sn rfl ?_; refine Sn rfl ?_; refine Sn rfl ?_; refine S_q rfl rfl rfl (Q_pick_f rfl rfl rfl) ?_; refine On ?_; refine cond_f rfl ?_; refine WP_skip ?_; refine block_n ?_; refine then_n ?_; refine R_region ?_; refine S_q rfl rfl rfl (Q_add rfl rfl rfl (by omega)) ?_; refine Sm rfl ?_; refine OPS_nil ?_)); rotate_left 1))
    · refine S_w0 rfl rfl (W_setO (j := j) (y := (0, 0, (0, 0))) (vs := vlc (0, 0, (0, 0))) [_, _] _ hO (by omega) rfl rfl rfl (ty rfl) rfl rfl rfl rfl ?_)
      intro M' hO'
      (focus (refine OPS_nil ?_; refine block_n ?_; refine then_n ?_; refine R_region ?_; refine S_q rfl rfl rfl (Q_add rfl rfl rfl (by omega)) ?_; refine Sm rfl ?_; refine OPS_nil ?_))
      refine roundF_n (j + 1, M') (by simp only; omega) ⟨rfl, by simp only; omega, ?_⟩ (by repeat' first | exact sR _ | exact sA _ _ | exact sN _ | apply s2 | apply s1) (by repeat' first | exact trivial | refine ⟨rfl, ?_⟩)
      simp only; rw [plainTo_yes ex ⟨c3_4, c3_5, c3_6⟩]; exact hO'
    all_goals refine roundF_n (j + 1, M) (by simp only; omega) ⟨rfl, by simp only; omega, ?_⟩ (by repeat' first | exact sR _ | exact sA _ _ | exact sN _ | apply s2 | apply s1) (by repeat' first | exact trivial | refine ⟨rfl, ?_⟩)
    all_goals (simp only; rw [plainTo_no ex (by simp_all)]; exact hO)
  have hge : j = fs.length := by omega
  subst hge
  rw [plainTo_end] at hO
  have hml : (fs.map (plainV kd live)).length = fs.length := List.length_map _
  refine WP_keepM [_] M _ rfl fun h2 hl2 hm2 => ?_
  have hN : SL h2 4 ValC (.slice p0_3 fs.length q0_3) (fs.map (plainV kd live)) := hO.sl hl2 ValC_mono hm2 (by omega)
  clear hO hm2
  (replace a1_k := a1_k.up hl2; replace hf := hf.up hl2; replace hl := hl.up hl2)
  (focus (refine Wr ?_; refine Sc rfl rfl rfl rfl rfl rfl rfl ?_; refine On ?_; refine WP_seq ?_; refine WP_cond rfl (fun c6_1 => ?_) (fun c6_1 => ?_) <;> (first | (simp [*] at c6_1; done) | (try simp at c6_1)); refine WP_exit ?_; refine then_e ?_; refine roundF_e ?_; refine block_e ?_; refine then_n ?_; refine Wr ?_; refine S_load rfl rfl rfl rfl rfl ?_; refine L_agg (Rd.pers ‹_›) (ty rfl) (by first | rfl | assumption) ?_; refine S_c rfl rfl rfl (C_buildSlice rfl (elm rfl) (zer rfl) rfl ⟨_, _, _, rfl, rfl, rfl, rfl, rfl, rfl⟩ rfl rfl ?_); intro b6_2; refine S_q rfl rfl rfl (Q_build rfl (by decide +kernel) (zer rfl) ⟨_, _, _, _, _, _, _, rfl, fld rfl rfl, ty rfl, rfl, rfl, rfl, rfl⟩ rfl) ?_; refine S_w0 rfl rfl (W_all rfl rfl rfl (ty rfl) u1 (by first | rfl | assumption) (by first | rfl | assumption) (by first | rfl | assumption | exact ones_sub ‹_› _ _) ?_); refine On ?_; refine WP_ret ?_))
  refine pretKM [] [_] _ rfl (.inl rfl) rfl ⟨_, _, _, rfl, Loads_agg (Rd.own m1) (ty rfl) rfl, rfl, rfl⟩ fun h' hl' hm' => ?_
  have hnd : NodeC 4398046511104 h2 (plainN live ⟨(i1, i2), kd, cl, fs⟩) [.int .i64 i1, .int .i64 i2, .int .i64 kd, .int .i64 cl, .slice p0_3 fs.length q0_3] := by
    rw [plainN_def]
    refine ⟨p0_3, q0_3, by simp only [hml], ?_⟩
    simp only [hml]
    exact hN
  exact ⟨_, _, rfl, _, _, rfl, (OS.one1 h2 38 5 rfl rfl hnd).sl hl' (NodeC_mono _) hm' (by simp)⟩
end Go.Proofs.YtfhoecgiahpddaaGreat
/-
  CONTRACTS: the inner function of observer.Agrees.
-/
set_option linter.all false
namespace Go.Proofs.YtfhoecgiahpddaaGreat
open Go.Mesh Go.RowKit
set_option maxRecDepth 100000
set_option linter.unusedVariables false
set_option maxHeartbeats 4000000
attribute [local irreducible] WP OPS ANY ANYo LG LV FSpec PSpec QOP OPc OPw thenQ blockQ roundQ roundF retQ retM Rd At SLB OS cmpI orI cmpID namedB valB nodeB kindB validG valAux idxI findG zeroV viewOf vwAt idxOf recv flyB scionOf moveOf numberedOf idOf valueOf mget mput localB carriedB msgB sizesB smallV fewB stubOf followF followOf flOf flightsOf flPre plainV plainN plainTo
/-- whether two graphs do not agree on an identity -/
noncomputable def disagree (own g : List Nd) (live : List ID) (id : ID) : Bool := match findG own id, findG g id with
  | some a, some b => !decide (plainN live a = plainN live b)
  | _, _ => true
theorem one_eq {a b : Nd} : decide ([a] = [b]) = decide (a = b) := by simp
theorem disagree_some {own g : List Nd} {live : List ID} {id : ID} {a b : Nd} (h1 : findG own id = some a) (h2 : findG g id = some b) : disagree own g live id = !decide (plainN live a = plainN live b) := by rw [disagree, h1, h2]
theorem disagree_none1 {own g : List Nd} {live : List ID} {id : ID} (h1 : findG own id = none) : disagree own g live id = true := by rw [disagree, h1]
theorem disagree_none2 {own g : List Nd} {live : List ID} {id : ID} (h1 : findG g id = none) : disagree own g live id = true := by
  rw [disagree, h1]; cases findG own id <;> rfl
attribute [local irreducible] disagree
theorem agrees1_s {h : Frag} {id : ID} {own g : List Nd} {live : List ID} {b1 b2 b3 : Nat} {us ws : List Value} {a : Value} (h1 : At h b1 0 us) (hg1 : GraphC 4398046511104 h own us) (h2 : At h b2 0 ws) (hg2 : GraphC 4398046511104 h g ws) (h3 : At h b3 0 [a]) (hl : SL h 2 IDC a live) :
    PSpec Tryz.prog 73 ([Value.agg (idc id).toArray] ++ [ptr b1 0, ptr b2 0, ptr b3 0]).toArray h (fun _ v => v = .bool (disagree own g live id)) := by
  obtain ⟨p, c, rfl, hf⟩ := hg1
  obtain ⟨p', c', rfl, hf'⟩ := hg2
  obtain ⟨i1, i2⟩ := id
  refine pspec_of (vs := [.agg (idc (i1, i2)).toArray, ptr b1 0, ptr b2 0, ptr b3 0]) Tryz.func73 Tryz.ntmps73 rfl rfl ?_
  cases e1 : findG own (i1, i2) with
  | none =>
    (focus (refine Wr ?_; refine S_c rfl rfl rfl (C_box rfl rfl ?_); intro b0_1; refine Sm rfl ?_; refine On ?_; refine Wr ?_; refine S_load rfl rfl rfl rfl rfl ?_; refine L_agg (Rd.pers ‹_›) (ty rfl) (by first | rfl | assumption) ?_; refine S_load rfl rfl rfl rfl rfl ?_; refine L_agg (Rd.own m0) (ty rfl) (by first | rfl | assumption) ?_; refine S_c rfl rfl rfl (C_call (find_s ⟨_, _, rfl, by assumption⟩) rfl rfl ⟨_, _, rfl, ⟨_, _, rfl, rfl, rfl⟩, rfl⟩ (cal rfl) ?_); rintro h0_2 _ l0_2 ⟨vf0_2, rfl, pn0_2, qn0_2, rfl, fn0_2⟩; replace h3 := h3.up l0_2; replace hl := hl.up l0_2; replace hf := hf.up l0_2; replace h1 := h1.up l0_2; replace hf' := hf'.up l0_2; replace h2 := h2.up l0_2; refine Sm rfl ?_; refine S_q rfl rfl rfl (Q_extract rfl rfl rfl) ?_; refine S_q rfl rfl rfl (Q_extract rfl rfl rfl) ?_; refine S_c rfl rfl rfl (C_alloc rfl (zer rfl) ?_); intro b0_3; refine S_w0 rfl rfl (W_all rfl rfl rfl (ty rfl) u0 (by first | rfl | assumption) (by first | rfl | assumption) (by first | rfl | assumption | exact ones_sub ‹_› _ _) ?_); refine Sm rfl ?_; refine On ?_; refine Wr ?_; refine S_load rfl rfl rfl rfl rfl ?_; refine L_agg (Rd.pers ‹_›) (ty rfl) (by first | rfl | assumption) ?_; refine S_load rfl rfl rfl rfl rfl ?_; refine L_agg (Rd.own m1) (ty rfl) (by first | rfl | assumption) ?_; refine S_c rfl rfl rfl (C_call (find_s ⟨_, _, rfl, by assumption⟩) rfl rfl ⟨_, _, rfl, ⟨_, _, rfl, rfl, rfl⟩, rfl⟩ (cal rfl) ?_); rintro h0_4 _ l0_4 ⟨vf0_4, rfl, pn0_4, qn0_4, rfl, fn0_4⟩; replace fn0_2 := fn0_2.up l0_4; replace h3 := h3.up l0_4; replace hl := hl.up l0_4; replace hf := hf.up l0_4; replace h1 := h1.up l0_4; replace hf' := hf'.up l0_4; replace h2 := h2.up l0_4; refine Sm rfl ?_; refine S_q rfl rfl rfl (Q_extract rfl rfl rfl) ?_; refine S_q rfl rfl rfl (Q_extract rfl rfl rfl) ?_; refine S_c rfl rfl rfl (C_alloc rfl (zer rfl) ?_); intro b0_5; refine S_w0 rfl rfl (W_all rfl rfl rfl (ty rfl) u0 (by first | rfl | assumption) (by first | rfl | assumption) (by first | rfl | assumption | exact ones_sub ‹_› _ _) ?_); refine Sm rfl ?_; refine On ?_; refine WP_seq ?_; refine R_draw (n := 17) mixed rfl ?_; refine A_at 0 rfl rfl ?_; refine A_q (m' := 1) rfl rfl rfl (Q_move rfl rfl) rfl (by decide +kernel) ?_; refine A_at 1 rfl rfl ?_; refine A_q (m' := 3) rfl rfl rfl (Q_not rfl rfl) rfl (by decide +kernel) ?_; refine A_at 2 rfl rfl ?_; refine A_q (m' := 7) rfl rfl rfl (Q_move rfl rfl) rfl (by decide +kernel) ?_; refine A_at 3 rfl rfl ?_; refine A_gsplit rfl rfl rfl rfl (fun c0_6 => ?_) (fun c0_6 => ?_) <;> (first | (simp [*] at c0_6; done) | (try simp at c0_6)); refine A_at 3 rfl rfl ?_; refine A_gn (m' := 15) rfl rfl rfl rfl rfl rfl rfl (by decide +kernel) ?_; refine A_at 4 rfl rfl ?_; refine A_gn (m' := 31) rfl rfl rfl rfl rfl rfl rfl (by decide +kernel) ?_; refine A_at 5 rfl rfl ?_; refine A_q (m' := 63) rfl rfl rfl (Q_pick_t rfl rfl rfl) rfl (by decide +kernel) ?_; refine A_at 6 rfl rfl ?_; refine A_q (m' := 127) rfl rfl rfl (Q_move rfl rfl) rfl (by decide +kernel) ?_; refine A_at 7 rfl rfl ?_; refine A_gn (m' := 255) rfl rfl rfl rfl rfl rfl rfl (by decide +kernel) ?_; refine A_at 8 rfl rfl ?_; refine A_gn (m' := 511) rfl rfl rfl rfl rfl rfl rfl (by decide +kernel) ?_; refine A_at 9 rfl rfl ?_; refine A_gn (m' := 1023) rfl rfl rfl rfl rfl rfl rfl (by decide +kernel) ?_; refine A_at 10 rfl rfl ?_; refine A_gn (m' := 2047) rfl rfl rfl rfl rfl rfl rfl (by decide +kernel) ?_; refine A_at 11 rfl rfl ?_; refine A_gn (m' := 4095) rfl rfl rfl rfl rfl rfl rfl (by decide +kernel) ?_; refine A_at 12 rfl rfl ?_; refine A_gn (m' := 8191) rfl rfl rfl rfl rfl rfl rfl (by decide +kernel) ?_; refine A_at 13 rfl rfl ?_; refine A_gn (m' := 16383) rfl rfl rfl rfl rfl rfl rfl (by decide +kernel) ?_; refine A_at 14 rfl rfl ?_; refine A_gn (m' := 32767) rfl rfl rfl rfl rfl rfl rfl (by decide +kernel) ?_; refine A_at 15 rfl rfl ?_; refine A_q (m' := 65535) rfl rfl rfl (Q_pick_t rfl rfl rfl) rfl (by decide +kernel) ?_; refine A_at 16 rfl rfl ?_; refine A_q (m' := 131071) rfl rfl rfl (Q_assign rfl rfl) rfl (by decide +kernel) ?_; refine A_done (by decide +kernel) ?_; refine then_n ?_; refine WP_ret ?_))
    refine pret (.inl rfl) rfl ⟨_, _, rfl, rfl, rfl⟩ ?_
    simp only [resOf]; rw [disagree_none1 e1]
  | some x =>
    cases e2 : findG g (i1, i2) with
    | none =>
      (focus (refine Wr ?_; refine S_c rfl rfl rfl (C_box rfl rfl ?_); intro b1_1; refine Sm rfl ?_; refine On ?_; refine Wr ?_; refine S_load rfl rfl rfl rfl rfl ?_; refine L_agg (Rd.pers ‹_›) (ty rfl) (by first | rfl | assumption) ?_; refine S_load rfl rfl rfl rfl rfl ?_; refine L_agg (Rd.own m0) (ty rfl) (by first | rfl | assumption) ?_; refine S_c rfl rfl rfl (C_call (find_s ⟨_, _, rfl, by assumption⟩) rfl rfl ⟨_, _, rfl, ⟨_, _, rfl, rfl, rfl⟩, rfl⟩ (cal rfl) ?_); rintro h1_2 _ l1_2 ⟨vf1_2, rfl, pn1_2, qn1_2, rfl, fn1_2⟩; replace h3 := h3.up l1_2; replace hl := hl.up l1_2; replace hf := hf.up l1_2; replace h1 := h1.up l1_2; replace hf' := hf'.up l1_2; replace h2 := h2.up l1_2; refine Sm rfl ?_; refine S_q rfl rfl rfl (Q_extract rfl rfl rfl) ?_; refine S_q rfl rfl rfl (Q_extract rfl rfl rfl) ?_; refine S_c rfl rfl rfl (C_alloc rfl (zer rfl) ?_); intro b1_3; refine S_w0 rfl rfl (W_all rfl rfl rfl (ty rfl) u0 (by first | rfl | assumption) (by first | rfl | assumption) (by first | rfl | assumption | exact ones_sub ‹_› _ _) ?_); refine Sm rfl ?_; refine On ?_; refine Wr ?_; refine S_load rfl rfl rfl rfl rfl ?_; refine L_agg (Rd.pers ‹_›) (ty rfl) (by first | rfl | assumption) ?_; refine S_load rfl rfl rfl rfl rfl ?_; refine L_agg (Rd.own m1) (ty rfl) (by first | rfl | assumption) ?_; refine S_c rfl rfl rfl (C_call (find_s ⟨_, _, rfl, by assumption⟩) rfl rfl ⟨_, _, rfl, ⟨_, _, rfl, rfl, rfl⟩, rfl⟩ (cal rfl) ?_); rintro h1_4 _ l1_4 ⟨vf1_4, rfl, pn1_4, qn1_4, rfl, fn1_4⟩; replace fn1_2 := fn1_2.up l1_4; replace h3 := h3.up l1_4; replace hl := hl.up l1_4; replace hf := hf.up l1_4; replace h1 := h1.up l1_4; replace hf' := hf'.up l1_4; replace h2 := h2.up l1_4; refine Sm rfl ?_; refine S_q rfl rfl rfl (Q_extract rfl rfl rfl) ?_; refine S_q rfl rfl rfl (Q_extract rfl rfl rfl) ?_; refine S_c rfl rfl rfl (C_alloc rfl (zer rfl) ?_); intro b1_5; refine S_w0 rfl rfl (W_all rfl rfl rfl (ty rfl) u0 (by first | rfl | assumption) (by first | rfl | assumption) (by first | rfl | assumption | exact ones_sub ‹_› _ _) ?_); refine Sm rfl ?_; refine On ?_; refine WP_seq ?_; refine R_draw (n := 17) mixed rfl ?_; refine A_at 0 rfl rfl ?_; refine A_q (m' := 1) rfl rfl rfl (Q_move rfl rfl) rfl (by decide +kernel) ?_; refine A_at 1 rfl rfl ?_; refine A_q (m' := 3) rfl rfl rfl (Q_not rfl rfl) rfl (by decide +kernel) ?_; refine A_at 2 rfl rfl ?_; refine A_q (m' := 7) rfl rfl rfl (Q_move rfl rfl) rfl (by decide +kernel) ?_; refine A_at 3 rfl rfl ?_; refine A_gsplit rfl rfl rfl rfl (fun c1_6 => ?_) (fun c1_6 => ?_) <;> (first | (simp [*] at c1_6; done) | (try simp at c1_6)); refine A_at 3 rfl rfl ?_; refine A_gq (m' := 15) rfl rfl rfl rfl rfl rfl (Q_move rfl rfl) rfl (by decide +kernel) ?_; refine A_at 4 rfl rfl ?_; refine A_gq (m' := 31) rfl rfl rfl rfl rfl rfl (Q_not rfl rfl) rfl (by decide +kernel) ?_; refine A_at 5 rfl rfl ?_; refine A_q (m' := 63) rfl rfl rfl (Q_pick_f rfl rfl rfl) rfl (by decide +kernel) ?_; refine A_at 6 rfl rfl ?_; refine A_q (m' := 127) rfl rfl rfl (Q_move rfl rfl) rfl (by decide +kernel) ?_; refine A_at 7 rfl rfl ?_; refine A_gsplit rfl rfl rfl rfl (fun c1_7 => ?_) (fun c1_7 => ?_) <;> (first | (simp [*] at c1_7; done) | (try simp at c1_7)); refine A_at 7 rfl rfl ?_; refine A_gn (m' := 255) rfl rfl rfl rfl rfl rfl rfl (by decide +kernel) ?_; refine A_at 8 rfl rfl ?_; refine A_gn (m' := 511) rfl rfl rfl rfl rfl rfl rfl (by decide +kernel) ?_; refine A_at 9 rfl rfl ?_; refine A_gn (m' := 1023) rfl rfl rfl rfl rfl rfl rfl (by decide +kernel) ?_; refine A_at 10 rfl rfl ?_; refine A_gn (m' := 2047) rfl rfl rfl rfl rfl rfl rfl (by decide +kernel) ?_; refine A_at 11 rfl rfl ?_; refine A_gn (m' := 4095) rfl rfl rfl rfl rfl rfl rfl (by decide +kernel) ?_; refine A_at 12 rfl rfl ?_; refine A_gn (m' := 8191) rfl rfl rfl rfl rfl rfl rfl (by decide +kernel) ?_; refine A_at 13 rfl rfl ?_; refine A_gn (m' := 16383) rfl rfl rfl rfl rfl rfl rfl (by decide +kernel) ?_; refine A_at 14 rfl rfl ?_; refine A_gn (m' := 32767) rfl rfl rfl rfl rfl rfl rfl (by decide +kernel) ?_; refine A_at 15 rfl rfl ?_; refine A_q (m' := 65535) rfl rfl rfl (Q_pick_t rfl rfl rfl) rfl (by decide +kernel) ?_; refine A_at 16 rfl rfl ?_; refine A_q (m' := 131071) rfl rfl rfl (Q_assign rfl rfl) rfl (by decide +kernel) ?_; refine A_done (by decide +kernel) ?_; refine then_n ?_; refine WP_ret ?_))
      refine pret (.inl rfl) rfl ⟨_, _, rfl, rfl, rfl⟩ ?_
      simp only [resOf]; rw [disagree_none2 e2]
    | some y =>
      (focus (refine Wr ?_; refine S_c rfl rfl rfl (C_box rfl rfl ?_); intro b2_1; refine Sm rfl ?_; refine On ?_; refine Wr ?_; refine S_load rfl rfl rfl rfl rfl ?_; refine L_agg (Rd.pers ‹_›) (ty rfl) (by first | rfl | assumption) ?_; refine S_load rfl rfl rfl rfl rfl ?_; refine L_agg (Rd.own m0) (ty rfl) (by first | rfl | assumption) ?_; refine S_c rfl rfl rfl (C_call (find_s ⟨_, _, rfl, by assumption⟩) rfl rfl ⟨_, _, rfl, ⟨_, _, rfl, rfl, rfl⟩, rfl⟩ (cal rfl) ?_); rintro h2_2 _ l2_2 ⟨vf2_2, rfl, pn2_2, qn2_2, rfl, fn2_2⟩; replace h3 := h3.up l2_2; replace hl := hl.up l2_2; replace hf := hf.up l2_2; replace h1 := h1.up l2_2; replace hf' := hf'.up l2_2; replace h2 := h2.up l2_2; refine Sm rfl ?_; refine S_q rfl rfl rfl (Q_extract rfl rfl rfl) ?_; refine S_q rfl rfl rfl (Q_extract rfl rfl rfl) ?_; refine S_c rfl rfl rfl (C_alloc rfl (zer rfl) ?_); intro b2_3; refine S_w0 rfl rfl (W_all rfl rfl rfl (ty rfl) u0 (by first | rfl | assumption) (by first | rfl | assumption) (by first | rfl | assumption | exact ones_sub ‹_› _ _) ?_); refine Sm rfl ?_; refine On ?_; refine Wr ?_; refine S_load rfl rfl rfl rfl rfl ?_; refine L_agg (Rd.pers ‹_›) (ty rfl) (by first | rfl | assumption) ?_; refine S_load rfl rfl rfl rfl rfl ?_; refine L_agg (Rd.own m1) (ty rfl) (by first | rfl | assumption) ?_; refine S_c rfl rfl rfl (C_call (find_s ⟨_, _, rfl, by assumption⟩) rfl rfl ⟨_, _, rfl, ⟨_, _, rfl, rfl, rfl⟩, rfl⟩ (cal rfl) ?_); rintro h2_4 _ l2_4 ⟨vf2_4, rfl, pn2_4, qn2_4, rfl, fn2_4⟩; replace fn2_2 := fn2_2.up l2_4; replace h3 := h3.up l2_4; replace hl := hl.up l2_4; replace hf := hf.up l2_4; replace h1 := h1.up l2_4; replace hf' := hf'.up l2_4; replace h2 := h2.up l2_4; refine Sm rfl ?_; refine S_q rfl rfl rfl (Q_extract rfl rfl rfl) ?_; refine S_q rfl rfl rfl (Q_extract rfl rfl rfl) ?_; refine S_c rfl rfl rfl (C_alloc rfl (zer rfl) ?_); intro b2_5; refine S_w0 rfl rfl (W_all rfl rfl rfl (ty rfl) u0 (by first | rfl | assumption) (by first | rfl | assumption) (by first | rfl | assumption | exact ones_sub ‹_› _ _) ?_); refine Sm rfl ?_; refine On ?_; refine WP_seq ?_; refine R_draw (n := 17) mixed rfl ?_; refine A_at 0 rfl rfl ?_; refine A_q (m' := 1) rfl rfl rfl (Q_move rfl rfl) rfl (by decide +kernel) ?_; refine A_at 1 rfl rfl ?_; refine A_q (m' := 3) rfl rfl rfl (Q_not rfl rfl) rfl (by decide +kernel) ?_; refine A_at 2 rfl rfl ?_; refine A_q (m' := 7) rfl rfl rfl (Q_move rfl rfl) rfl (by decide +kernel) ?_; refine A_at 3 rfl rfl ?_; refine A_gsplit rfl rfl rfl rfl (fun c2_6 => ?_) (fun c2_6 => ?_) <;> (first | (simp [*] at c2_6; done) | (try simp at c2_6)); refine A_at 3 rfl rfl ?_; refine A_gq (m' := 15) rfl rfl rfl rfl rfl rfl (Q_move rfl rfl) rfl (by decide +kernel) ?_; refine A_at 4 rfl rfl ?_; refine A_gq (m' := 31) rfl rfl rfl rfl rfl rfl (Q_not rfl rfl) rfl (by decide +kernel) ?_; refine A_at 5 rfl rfl ?_; refine A_q (m' := 63) rfl rfl rfl (Q_pick_f rfl rfl rfl) rfl (by decide +kernel) ?_; refine A_at 6 rfl rfl ?_; refine A_q (m' := 127) rfl rfl rfl (Q_move rfl rfl) rfl (by decide +kernel) ?_; refine A_at 7 rfl rfl ?_; refine A_gsplit rfl rfl rfl rfl (fun c2_7 => ?_) (fun c2_7 => ?_) <;> (first | (simp [*] at c2_7; done) | (try simp at c2_7)); refine A_at 7 rfl rfl ?_; refine A_gload (m' := 255) rfl rfl rfl rfl rfl rfl rfl rfl rfl (by decide +kernel) ?_; refine L_agg (Rd.own m1) (ty rfl) (by first | rfl | assumption) ?_; refine A_at 8 rfl rfl ?_; refine A_gload (m' := 511) rfl rfl rfl rfl rfl rfl rfl rfl rfl (by decide +kernel) ?_; refine L_one (Rd.pers ‹_›) (ty rfl) ?_; refine A_at 10 rfl rfl ?_; refine A_gload (m' := 1535) rfl rfl rfl rfl rfl rfl rfl rfl rfl (by decide +kernel) ?_; refine L_agg (Rd.own m0) (ty rfl) (by first | rfl | assumption) ?_; refine A_at 11 rfl rfl ?_; refine A_gload (m' := 3583) rfl rfl rfl rfl rfl rfl rfl rfl rfl (by decide +kernel) ?_; refine L_one (Rd.pers ‹_›) (ty rfl) ?_; refine A_at 9 rfl rfl ?_; refine A_gc (m' := 4095) rfl rfl rfl rfl rfl rfl rfl (by decide +kernel) (C_call (plain_s ⟨_, _, rfl, by assumption⟩ ‹_›) rfl rfl ⟨_, _, rfl, ⟨_, _, rfl, rfl, rfl⟩, rfl⟩ (cal rfl) ?_); rintro h2_8 _ l2_8 ⟨pq2_8, qq2_8, rfl, gg2_8⟩; replace fn2_4 := fn2_4.up l2_8; replace fn2_2 := fn2_2.up l2_8; replace h3 := h3.up l2_8; replace hl := hl.up l2_8; replace hf := hf.up l2_8; replace h1 := h1.up l2_8; replace hf' := hf'.up l2_8; replace h2 := h2.up l2_8; refine A_at 12 rfl rfl ?_; refine A_gc (m' := 8191) rfl rfl rfl rfl rfl rfl rfl (by decide +kernel) (C_call (plain_s ⟨_, _, rfl, by assumption⟩ ‹_›) rfl rfl ⟨_, _, rfl, ⟨_, _, rfl, rfl, rfl⟩, rfl⟩ (cal rfl) ?_); rintro h2_9 _ l2_9 ⟨pq2_9, qq2_9, rfl, gg2_9⟩; replace gg2_8 := gg2_8.up l2_9; replace fn2_4 := fn2_4.up l2_9; replace fn2_2 := fn2_2.up l2_9; replace h3 := h3.up l2_9; replace hl := hl.up l2_9; replace hf := hf.up l2_9; replace h1 := h1.up l2_9; replace hf' := hf'.up l2_9; replace h2 := h2.up l2_9; refine A_at 13 rfl rfl ?_; refine A_gc (m' := 16383) rfl rfl rfl rfl rfl rfl rfl (by decide +kernel) (C_callv (equal_s (g := [_]) (k := [_]) ‹_› ‹_›) rfl rfl ⟨_, _, rfl, ⟨_, _, rfl, rfl, rfl⟩, rfl⟩ (cal rfl) ?_); refine A_at 14 rfl rfl ?_; refine A_gq (m' := 32767) rfl rfl rfl rfl rfl rfl (Q_not rfl rfl) rfl (by decide +kernel) ?_; refine A_at 15 rfl rfl ?_; refine A_q (m' := 65535) rfl rfl rfl (Q_pick_f rfl rfl rfl) rfl (by decide +kernel) ?_; refine A_at 16 rfl rfl ?_; refine A_q (m' := 131071) rfl rfl rfl (Q_assign rfl rfl) rfl (by decide +kernel) ?_; refine A_done (by decide +kernel) ?_; refine then_n ?_; refine WP_ret ?_))
      refine pret (.inl rfl) rfl ⟨_, _, rfl, rfl, rfl⟩ ?_
      simp only [resOf]; rw [disagree_some e1 e2, e1, e2, Option.getD_some, Option.getD_some, one_eq]
end Go.Proofs.YtfhoecgiahpddaaGreat
/-
  CONTRACTS: observer.Agrees.
-/
set_option linter.all false
namespace Go.Proofs.YtfhoecgiahpddaaGreat
open Go.Mesh Go.RowKit
set_option maxRecDepth 100000
set_option linter.unusedVariables false
set_option maxHeartbeats 4000000
attribute [local irreducible] WP OPS ANY ANYo LG LV FSpec PSpec QOP OPc OPw thenQ blockQ roundQ roundF retQ retM Rd At SLB OS cmpI orI cmpID namedB valB nodeB kindB validG valAux idxI findG zeroV viewOf vwAt idxOf recv flyB scionOf moveOf numberedOf idOf valueOf mget mput localB carriedB msgB sizesB smallV fewB stubOf followF followOf flOf flightsOf flPre plainV plainN plainTo disagree setL minusL compactL putI mergeN insN insAll unionR NMap Coll retN bodyS GMap Dfs refsV refsOf reachL movedOf movedG graphParts graphR isMove flightIDs mailIDs viewIDs rawRoots rootsR reachR deadN viewObjs garbageOf garbageR objsL
/-- whether a fleet agrees with a graph and its reached identities -/
noncomputable def agreesB (vs : List View) (g : List Nd) (ids : List ID) : Bool := decide ((graphR vs).2 = 0) && (decide (reachR vs = setL ids) && !(reachR vs).any (disagree (graphR vs).1 g (reachR vs)))
theorem agreesB_err {vs : List View} {g : List Nd} {ids : List ID} (h : ¬ (graphR vs).2 = 0) : agreesB vs g ids = false := by rw [agreesB, decide_eq_false h]; rfl
theorem agreesB_ne {vs : List View} {g : List Nd} {ids : List ID} (h : ¬ reachR vs = setL ids) : agreesB vs g ids = false := by rw [agreesB, decide_eq_false h, Bool.false_and, Bool.and_false]
theorem agreesB_eq {vs : List View} {g : List Nd} {ids : List ID} (h1 : (graphR vs).2 = 0) (h : reachR vs = setL ids) : agreesB vs g ids = !(reachR vs).any (disagree (graphR vs).1 g (reachR vs)) := by rw [agreesB, decide_eq_true h1, decide_eq_true h]; rfl
attribute [local irreducible] agreesB
theorem setM_s {h : Frag} {a : Value} {xs : List ID} (hx : SL h 2 IDC a xs) : PSpec Tryz.prog 42 #[a] h (fun h' v => ∃ p c, v = .slice p (setL xs).length c ∧ SL h' 2 IDC (.slice p (setL xs).length c) (setL xs)) := by
  have hxl := hx.le
  have hsl := setL_length xs
  obtain ⟨p, cap, rfl⟩ := hx.slice
  refine pspec_of (vs := [.slice p xs.length cap]) Tryz.func42 Tryz.ntmps42 rfl rfl ?_
  (focus (refine Wr ?_; refine Sm rfl ?_; refine On ?_; refine Wr ?_; refine Sm rfl ?_; refine S_w rfl rfl rfl (W_callF [] _ (cloneID_s ‹_›) rfl rfl ⟨_, _, rfl, rfl, rfl⟩ (cal rfl) rfl ?_); rintro h0_1 m0_1 _ l0_1 ⟨p0_1, q0_1, rfl, o0_1⟩; replace hx := hx.up l0_1; refine Sm rfl ?_; refine On ?_; refine Wr ?_; refine Sm rfl ?_; refine S_w rfl rfl rfl (W_callF [] _ (sortID_s ‹_› (by omega) (cal rfl) (fun _ _ => compareID_s _ _ _)) rfl rfl ⟨_, _, rfl, ⟨_, _, rfl, rfl, rfl⟩, rfl⟩ (cal rfl) rfl ?_); rintro h0_2 m0_2 _ l0_2 ⟨e0_2, rfl, ys0_2, hp0_2, hn0_2, hs0_2, o0_2⟩; replace o0_1 := o0_1.up l0_2; replace hx := hx.up l0_2; replace o0_2 := o0_2.up l0_2; refine On ?_; refine Wr ?_; refine Sm rfl ?_; refine S_w rfl rfl rfl (W_callF [] _ (compact_s ‹_› (by omega)) rfl rfl ⟨_, _, rfl, rfl, rfl⟩ (cal rfl) rfl ?_); rintro h0_3 m0_3 _ l0_3 ⟨e0_3, p0_3, q0_3, rfl, o0_3⟩; replace o0_1 := o0_1.up l0_3; replace hx := hx.up l0_3; replace o0_2 := o0_2.up l0_3; refine Sm rfl ?_; refine On ?_; refine WP_ret ?_))
  rw [compact_set hp0_2 hs0_2] at o0_3
  rw [compact_set hp0_2 hs0_2]
  refine pretKM [] m0_3 _ rfl (.inl rfl) rfl ⟨_, _, rfl, rfl, rfl⟩ fun h' hl' hm' => ?_
  exact ⟨_, _, rfl, o0_3.sl hl' IDC_mono hm' (by omega)⟩
theorem agrees_s {h : Frag} {a b : Value} {vs : List View} {us : List Value} {g : List Nd} {ids : List ID} (hs : SL h 13 (ViewC 4398046511104) a vs) (sm : Small vs) (hg : GraphC 4398046511104 h g us) (hi : SL h 2 IDC b ids) (hib : ids.length ≤ 1000000) : PSpec Tryz.prog 29 #[a, .agg us.toArray, b] h (fun _ v => v = .bool (agreesB vs g ids)) := by
  obtain ⟨pv, cv, rfl⟩ := hs.slice
  obtain ⟨pg, cg, rfl, hf⟩ := hg
  obtain ⟨pi, ci, rfl⟩ := hi.slice
  have hrr := sm.reach
  refine pspec_of (vs := [.slice pv vs.length cv, .agg [Value.slice pg g.length cg].toArray, .slice pi ids.length ci]) Tryz.func29 Tryz.ntmps29 rfl rfl ?_
  (focus (refine Wr ?_; refine S_c rfl rfl rfl (C_box rfl rfl ?_); intro b0_1; refine Sm rfl ?_; refine On ?_; refine Wr ?_; refine Sm rfl ?_; refine S_c rfl rfl rfl (C_call (graph_s ‹_› ‹_›) rfl rfl ⟨_, _, rfl, rfl, rfl⟩ (cal rfl) ?_); rintro h0_2 _ l0_2 ⟨_, rfl, pg0_2, qg0_2, rfl, fg0_2⟩; replace hs := hs.up l0_2; replace hf := hf.up l0_2; replace hi := hi.up l0_2; refine Sm rfl ?_; refine S_q rfl rfl rfl (Q_extract rfl rfl rfl) ?_; refine S_q rfl rfl rfl (Q_extract rfl rfl rfl) ?_; refine S_c rfl rfl rfl (C_alloc rfl (zer rfl) ?_); intro b0_3; refine S_w0 rfl rfl (W_all rfl rfl rfl (ty rfl) u0 (by first | rfl | assumption) (by first | rfl | assumption) (by first | rfl | assumption | exact ones_sub ‹_› _ _) ?_); refine Sm rfl ?_; refine On ?_; refine Wr ?_; refine Sm rfl ?_; refine S_c rfl rfl rfl (C_call (reachable_s ‹_› ‹_›) rfl rfl ⟨_, _, rfl, rfl, rfl⟩ (cal rfl) ?_); rintro h0_4 _ l0_4 ⟨p0_4, q0_4, rfl, f0_4⟩; replace fg0_2 := fg0_2.up l0_4; replace hs := hs.up l0_4; replace hf := hf.up l0_4; replace hi := hi.up l0_4; refine S_c rfl rfl rfl (C_alloc rfl (zer rfl) ?_); intro b0_5; refine S_w0 rfl rfl (W_one rfl rfl rfl (ty rfl) u0 rfl rfl rfl ?_); refine On ?_; refine WP_seq ?_))
  (focus (refine WP_keepM [] [_] _ rfl ?_; rintro h1_k l1_k k1_k; have a1_k := at_of_keep k1_k; clear k1_k; replace f0_4 := f0_4.up l1_k; replace fg0_2 := fg0_2.up l1_k; replace hs := hs.up l1_k; replace hf := hf.up l1_k; replace hi := hi.up l1_k))
  (focus (refine WP_keepM [] [_] _ rfl ?_; rintro h2_k l2_k k2_k; have a2_k := at_of_keep k2_k; clear k2_k; replace a1_k := a1_k.up l2_k; replace f0_4 := f0_4.up l2_k; replace fg0_2 := fg0_2.up l2_k; replace hs := hs.up l2_k; replace hf := hf.up l2_k; replace hi := hi.up l2_k))
  (focus (refine WP_keepM [] [_] _ rfl ?_; rintro h3_k l3_k k3_k; have a3_k := at_of_keep k3_k; clear k3_k; replace a2_k := a2_k.up l3_k; replace a1_k := a1_k.up l3_k; replace f0_4 := f0_4.up l3_k; replace fg0_2 := fg0_2.up l3_k; replace hs := hs.up l3_k; replace hf := hf.up l3_k; replace hi := hi.up l3_k))
  by_cases he : (graphR vs).2 = 0
  · (focus (refine WP_seq ?_; refine R_draw (n := 9) mixed rfl ?_; refine A_at 0 rfl rfl ?_; refine A_q (m' := 1) rfl rfl rfl (Q_move rfl rfl) rfl (by decide +kernel) ?_; refine A_at 1 rfl rfl ?_; refine A_q (m' := 3) rfl rfl rfl (Q_cmp rfl rfl rfl rfl) rfl (by decide +kernel) ?_; refine A_at 2 rfl rfl ?_; refine A_q (m' := 7) rfl rfl rfl (Q_move rfl rfl) rfl (by decide +kernel) ?_; refine A_at 3 rfl rfl ?_; refine A_gsplit rfl rfl rfl rfl (fun c4_1 => ?_) (fun c4_1 => ?_) <;> (first | (simp [*] at c4_1; done) | (try simp at c4_1)); refine A_at 3 rfl rfl ?_; refine A_gload (m' := 15) rfl rfl rfl rfl rfl rfl rfl rfl rfl (by decide +kernel) ?_; refine L_one (Rd.pers ‹_›) (ty rfl) ?_; refine A_at 4 rfl rfl ?_; refine A_gq (m' := 31) rfl rfl rfl rfl rfl rfl (Q_move rfl rfl) rfl (by decide +kernel) ?_; refine A_at 5 rfl rfl ?_; refine A_gc (m' := 63) rfl rfl rfl rfl rfl rfl rfl (by decide +kernel) (C_call (setM_s ‹_›) rfl rfl ⟨_, _, rfl, rfl, rfl⟩ (cal rfl) ?_); rintro h4_2 _ l4_2 ⟨p4_2, q4_2, rfl, f4_2⟩; replace a3_k := a3_k.up l4_2; replace a2_k := a2_k.up l4_2; replace a1_k := a1_k.up l4_2; replace f0_4 := f0_4.up l4_2; replace fg0_2 := fg0_2.up l4_2; replace hs := hs.up l4_2; replace hf := hf.up l4_2; replace hi := hi.up l4_2; refine A_at 6 rfl rfl ?_; refine A_gc (m' := 127) rfl rfl rfl rfl rfl rfl rfl (by decide +kernel) (C_callv (eqIDs_s ‹_› ‹_›) rfl rfl ⟨_, _, rfl, ⟨_, _, rfl, rfl, rfl⟩, rfl⟩ (cal rfl) ?_); refine A_at 7 rfl rfl ?_; refine A_gq (m' := 255) rfl rfl rfl rfl rfl rfl (Q_not rfl rfl) rfl (by decide +kernel) ?_; refine A_at 8 rfl rfl ?_; refine A_q (m' := 511) rfl rfl rfl (Q_pick_f rfl rfl rfl) rfl (by decide +kernel) ?_; refine A_done (by decide +kernel) ?_; refine then_n ?_; refine WP_cond rfl (fun c4_3 => ?_) (fun c4_3 => ?_) <;> (first | (simp [*] at c4_3; done) | (try simp at c4_3)); (focus (refine Wr ?_; refine Sm rfl ?_; refine On ?_; refine WP_ret ?_; refine then_r ?_)); rotate_left 1; (focus (refine WP_skip ?_; refine then_n ?_; refine Wr ?_; refine S_load rfl rfl rfl rfl rfl ?_; refine L_one (Rd.pers ‹_›) (ty rfl) ?_; refine S_q rfl rfl rfl (Q_makeFunc rfl rfl ⟨_, _, rfl, ⟨_, _, rfl, ⟨_, _, rfl, rfl, rfl⟩, rfl⟩, rfl⟩) ?_)); rotate_left 1))
    · refine pret (.inl rfl) rfl ⟨_, _, rfl, rfl, rfl⟩ ?_
      simp only [resOf]; rw [agreesB_ne c4_3]
    · have hfn : ∀ (x : ID) (us : List Value), us.length = 2 → ones us = true → IDC h4_2 x us → PSpec Tryz.prog 73 ([Value.agg us.toArray] ++ [ptr b0_3 0, ptr b0_1 0, ptr b0_5 0]).toArray h4_2 (fun _ v => v = .bool (disagree (graphR vs).1 g (reachR vs) x)) := fun x us _ _ hx => by
        subst hx; exact agrees1_s a2_k ⟨_, _, rfl, fg0_2⟩ a3_k ⟨_, _, rfl, hf⟩ a1_k f0_4
      refine S_c rfl rfl rfl (C_callv (hasIDf_s (cap := [ptr b0_3 0, ptr b0_1 0, ptr b0_5 0]) f0_4 (cal rfl) hfn) rfl rfl ⟨_, _, rfl, ⟨_, _, rfl, rfl, rfl⟩, rfl⟩ (cal rfl) ?_)
      (focus (refine S_q rfl rfl rfl (Q_not rfl rfl) ?_; refine Sm rfl ?_; refine On ?_; refine WP_ret ?_))
      refine pret (.inl rfl) rfl ⟨_, _, rfl, rfl, rfl⟩ ?_
      simp only [resOf]; rw [agreesB_eq he c4_3]
  · (focus (refine WP_seq ?_; refine R_draw (n := 9) mixed rfl ?_; refine A_at 0 rfl rfl ?_; refine A_q (m' := 1) rfl rfl rfl (Q_move rfl rfl) rfl (by decide +kernel) ?_; refine A_at 1 rfl rfl ?_; refine A_q (m' := 3) rfl rfl rfl (Q_cmp rfl rfl rfl rfl) rfl (by decide +kernel) ?_; refine A_at 2 rfl rfl ?_; refine A_q (m' := 7) rfl rfl rfl (Q_move rfl rfl) rfl (by decide +kernel) ?_; refine A_at 3 rfl rfl ?_; refine A_gsplit rfl rfl rfl rfl (fun c6_1 => ?_) (fun c6_1 => ?_) <;> (first | (simp [*] at c6_1; done) | (try simp at c6_1)); refine A_at 3 rfl rfl ?_; refine A_gn (m' := 15) rfl rfl rfl rfl rfl rfl rfl (by decide +kernel) ?_; refine A_at 4 rfl rfl ?_; refine A_gn (m' := 31) rfl rfl rfl rfl rfl rfl rfl (by decide +kernel) ?_; refine A_at 5 rfl rfl ?_; refine A_gn (m' := 63) rfl rfl rfl rfl rfl rfl rfl (by decide +kernel) ?_; refine A_at 6 rfl rfl ?_; refine A_gn (m' := 127) rfl rfl rfl rfl rfl rfl rfl (by decide +kernel) ?_; refine A_at 7 rfl rfl ?_; refine A_gn (m' := 255) rfl rfl rfl rfl rfl rfl rfl (by decide +kernel) ?_; refine A_at 8 rfl rfl ?_; refine A_q (m' := 511) rfl rfl rfl (Q_pick_t rfl rfl rfl) rfl (by decide +kernel) ?_; refine A_done (by decide +kernel) ?_; refine then_n ?_; refine cond_t rfl ?_; refine Wr ?_; refine Sm rfl ?_; refine On ?_; refine WP_ret ?_; refine then_r ?_))
    refine pret (.inl rfl) rfl ⟨_, _, rfl, rfl, rfl⟩ ?_
    simp only [resOf]; rw [agreesB_err he]
end Go.Proofs.YtfhoecgiahpddaaGreat
/-
  PLAIN: views turned round, two of them swapped: an order like any other.
-/
set_option linter.all false
namespace Go.Proofs.YtfhoecgiahpddaaGreat
open Go.Mesh Go.RowKit
set_option maxRecDepth 100000
set_option linter.unusedVariables false
set_option maxHeartbeats 4000000
attribute [local irreducible] WP OPS ANY ANYo LG LV FSpec PSpec QOP OPc OPw thenQ blockQ roundQ roundF retQ retM Rd At SLB OS cmpI orI cmpID namedB valB nodeB kindB validG valAux idxI findG zeroV viewOf vwAt idxOf recv flyB scionOf moveOf numberedOf idOf valueOf mget mput localB carriedB stubOf followF followOf flOf flightsOf flPre setL minusL compactL putI mergeN insN insAll unionR NMap Coll retN bodyS GMap Dfs refsV refsOf reachL movedOf movedG graphParts graphR isMove flightIDs mailIDs viewIDs rawRoots rootsR reachR deadN viewObjs garbageOf garbageR objsL thereB oddB badNode lostF badStub safe1 safe2 safe3 safe4 safeR msgB sizesB smallV fewB plainV plainN plainTo disagree agreesB
theorem Small.perm {vs ws : List View} (s : Small vs) (hp : ws.Perm vs) : Small ws where
  len := by rw [hp.length_eq]; exact s.len
  objs v hv := s.objs v (hp.mem_iff.1 hv)
  stubs v hv := s.stubs v (hp.mem_iff.1 hv)
  scions v hv := s.scions v (hp.mem_iff.1 hv)
  names v hv := s.names v (hp.mem_iff.1 hv)
  mail v hv := s.mail v (hp.mem_iff.1 hv)
  flights v hv := s.flights v (hp.mem_iff.1 hv)
  received v hv := s.received v (hp.mem_iff.1 hv)
  fields v hv := s.fields v (hp.mem_iff.1 hv)
  args v hv := s.args v (hp.mem_iff.1 hv)
  letter v hv := s.letter v (hp.mem_iff.1 hv)
  moved v hv := s.moved v (hp.mem_iff.1 hv)
  pmail v hv := s.pmail v (hp.mem_iff.1 hv)
  pargs v hv := s.pargs v (hp.mem_iff.1 hv)
theorem agreesB_perm {vs ws : List View} (h : viewOf ws = viewOf vs) (hp : ws.Perm vs) : agreesB ws = agreesB vs := by
  funext g ids
  rw [agreesB, agreesB, graphR_eq h hp, reachR_eq h hp]
theorem set_split {α : Type} {a b : α} : ∀ {t : List α} {k : Nat}, t[k]? = some b → t.Perm (b :: t.eraseIdx k) ∧ (t.set k a).Perm (a :: t.eraseIdx k)
  | [], k, h => by simp at h
  | x :: t, 0, h => by
    simp only [List.getElem?_cons_zero, Option.some.injEq] at h
    subst h
    exact ⟨.refl _, .refl _⟩
  | x :: t, k + 1, h => by
    simp only [List.getElem?_cons_succ] at h
    obtain ⟨h1, h2⟩ := set_split (a := a) h
    simp only [List.eraseIdx_cons_succ, List.set_cons_succ]
    exact ⟨(h1.cons x).trans (.swap _ _ _), (h2.cons x).trans (.swap _ _ _)⟩
theorem swap_perm {α : Type} {a b : α} : ∀ {l : List α} {j : Nat}, l[0]? = some a → l[j]? = some b → ((l.set 0 b).set j a).Perm l
  | [], _, h, _ => by simp at h
  | x :: t, 0, h1, h2 => by
    simp only [List.getElem?_cons_zero, Option.some.injEq] at h1 h2
    subst h1
    simp only [List.set_cons_zero]
    exact .refl _
  | x :: t, k + 1, h1, h2 => by
    simp only [List.getElem?_cons_zero, Option.some.injEq] at h1
    simp only [List.getElem?_cons_succ] at h2
    subst h1
    obtain ⟨h3, h4⟩ := set_split (a := x) h2
    simp only [List.set_cons_zero, List.set_cons_succ]
    exact (h4.cons b).trans ((List.Perm.swap _ _ _).trans (h3.symm.cons x))
theorem rot_perm {α : Type} (l : List α) (k : Nat) : (l.drop k ++ l.take k).Perm l := by
  have := List.perm_append_comm (l₁ := l.drop k) (l₂ := l.take k)
  rwa [List.take_append_drop] at this
theorem nodup_more {vs : List View} {i : Nat} {v : View} (hv : vs[i]? = some v) (hn : ((vs.take i).map (·.machine)).Nodup) (hne : ∀ j w, j < i → vs[j]? = some w → ¬ v.machine = w.machine) : ((vs.take (i + 1)).map (·.machine)).Nodup := by
  rw [List.take_add_one, hv, List.map_append, List.nodup_append]
  refine ⟨hn, by simp, fun a ha b hb e => ?_⟩
  simp only [Option.toList_some, List.map_cons, List.map_nil, List.mem_singleton] at hb
  subst hb
  subst e
  obtain ⟨w, hw, he⟩ := List.mem_map.1 ha
  obtain ⟨j, hj⟩ := List.getElem?_of_mem hw
  rw [List.getElem?_take] at hj
  split at hj
  · rename_i hji
    exact hne j w hji hj he.symm
  · cases hj
end Go.Proofs.YtfhoecgiahpddaaGreat
/-
  CONTRACTS: Example and awake (refmeshlaw55).
-/
set_option linter.all false
namespace Go.Proofs.YtfhoecgiahpddaaGreat
open Go.Mesh Go.RowKit
set_option maxRecDepth 100000
set_option linter.unusedVariables false
set_option maxHeartbeats 4000000
attribute [local irreducible] WP OPS ANY ANYo LG LV FSpec PSpec QOP OPc OPw thenQ blockQ roundQ roundF retQ retM Rd At SLB OS cmpI orI cmpID namedB valB nodeB kindB validG valAux idxI findG zeroV viewOf vwAt idxOf recv flyB scionOf moveOf numberedOf idOf valueOf mget mput localB carriedB stubOf followF followOf flOf flightsOf flPre setL minusL compactL putI mergeN insN insAll unionR NMap Coll retN bodyS GMap Dfs refsV refsOf reachL movedOf movedG graphParts graphR isMove flightIDs mailIDs viewIDs rawRoots rootsR reachR deadN viewObjs garbageOf garbageR objsL thereB oddB badNode lostF badStub safe1 safe2 safe3 safe4 safeR msgB sizesB smallV fewB
def exA : Nd := ⟨(1, 1), 1, 2, [(2, 0, (2, 1))]⟩
def exB : Nd := ⟨(2, 1), 3, 1, []⟩
def exB2 : Nd := ⟨(2, 1), 0, 1, []⟩
def exC : Nd := ⟨(2, 2), 0, 1, []⟩
def exV : List View := [⟨1, [exA, exB], [⟨2, 7, (2, 1), false, false⟩], [], [(1, 1)], [], [], []⟩, ⟨2, [exB2, exC], [], [⟨1, 7, (2, 1)⟩], [], [], [], []⟩]
theorem at_of {h : Frag} {b t : Nat} {l : List Value} (e : h b = some (cells l t)) : At h b 0 l := at_of_keep fun p hp => by rw [List.mem_singleton.1 hp]; exact e
theorem example_s {h : Frag} : PSpec Tryz.prog 31 #[] h (fun h' v => ∃ p c, v = .slice p exV.length c ∧ SL h' 13 (ViewC 4398046511104) (.slice p exV.length c) exV) := by
  refine pspec_of (vs := []) Tryz.func31 Tryz.ntmps31 rfl rfl ?_
  (focus (refine Wr ?_; refine Sm rfl ?_; refine On ?_; refine Wr ?_; refine S_q rfl rfl rfl (Q_build rfl (by decide +kernel) (zer rfl) ⟨_, _, _, _, _, _, _, rfl, fld rfl rfl, ty rfl, rfl, rfl, ⟨_, _, _, _, _, _, _, rfl, fld rfl rfl, ty rfl, rfl, rfl, rfl, rfl⟩, rfl⟩ rfl) ?_; refine S_q rfl rfl rfl (Q_build rfl (by decide +kernel) (zer rfl) ⟨_, _, _, _, _, _, _, rfl, fld rfl rfl, ty rfl, rfl, rfl, ⟨_, _, _, _, _, _, _, rfl, fld rfl rfl, ty rfl, rfl, rfl, rfl, rfl⟩, rfl⟩ rfl) ?_; refine S_q rfl rfl rfl (Q_build rfl (by decide +kernel) (zer rfl) ⟨_, _, _, _, _, _, _, rfl, fld rfl rfl, ty rfl, rfl, rfl, ⟨_, _, _, _, _, _, _, rfl, fld rfl rfl, ty rfl, rfl, rfl, rfl, rfl⟩, rfl⟩ rfl) ?_; refine S_c rfl rfl rfl (C_alloc rfl (zer rfl) ?_); intro b0_1; refine S_c rfl rfl rfl (C_alloc rfl (zer rfl) ?_); intro b0_2; refine S_c rfl rfl rfl (C_alloc rfl (zer rfl) ?_); intro b0_3; refine S_w0 rfl rfl (W_all rfl rfl rfl (ty rfl) u2 (by first | rfl | assumption) (by first | rfl | assumption) (by first | rfl | assumption | exact ones_sub ‹_› _ _) ?_); refine S_w0 rfl rfl (W_all rfl rfl rfl (ty rfl) u1 (by first | rfl | assumption) (by first | rfl | assumption) (by first | rfl | assumption | exact ones_sub ‹_› _ _) ?_); refine S_w0 rfl rfl (W_all rfl rfl rfl (ty rfl) u0 (by first | rfl | assumption) (by first | rfl | assumption) (by first | rfl | assumption | exact ones_sub ‹_› _ _) ?_); refine On ?_; refine Wr ?_; refine S_load rfl rfl rfl rfl rfl ?_; refine L_agg (Rd.own m2) (ty rfl) (by first | rfl | assumption) ?_; refine S_load rfl rfl rfl rfl rfl ?_; refine L_agg (Rd.own m1) (ty rfl) (by first | rfl | assumption) ?_; refine S_q rfl rfl rfl (Q_build rfl (by decide +kernel) (zer rfl) ⟨_, _, _, _, _, _, _, rfl, fld rfl rfl, ty rfl, rfl, rfl, ⟨_, _, _, _, _, _, _, rfl, fld rfl rfl, ty rfl, rfl, rfl, rfl, rfl⟩, rfl⟩ rfl) ?_; refine S_c rfl rfl rfl (C_buildSlice rfl (elm rfl) (zer rfl) rfl ⟨_, _, _, rfl, rfl, rfl, rfl, rfl, rfl⟩ rfl rfl ?_); intro b0_4; refine S_q rfl rfl rfl (Q_build rfl (by decide +kernel) (zer rfl) ⟨_, _, _, _, _, _, _, rfl, fld rfl rfl, ty rfl, rfl, rfl, ⟨_, _, _, _, _, _, _, rfl, fld rfl rfl, ty rfl, rfl, rfl, ⟨_, _, _, _, _, _, _, rfl, fld rfl rfl, ty rfl, rfl, rfl, ⟨_, _, _, _, _, _, _, rfl, fld rfl rfl, ty rfl, rfl, rfl, rfl, rfl⟩, rfl⟩, rfl⟩, rfl⟩ rfl) ?_; refine S_load rfl rfl rfl rfl rfl ?_; refine L_agg (Rd.own m2) (ty rfl) (by first | rfl | assumption) ?_; refine S_q rfl rfl rfl (Q_build rfl (by decide +kernel) (zer rfl) ⟨_, _, _, _, _, _, _, rfl, fld rfl rfl, ty rfl, rfl, rfl, ⟨_, _, _, _, _, _, _, rfl, fld rfl rfl, ty rfl, rfl, rfl, ⟨_, _, _, _, _, _, _, rfl, fld rfl rfl, ty rfl, rfl, rfl, rfl, rfl⟩, rfl⟩, rfl⟩ rfl) ?_; refine S_c rfl rfl rfl (C_buildSlice rfl (elm rfl) (zer rfl) rfl ⟨_, _, _, rfl, rfl, rfl, rfl, ⟨_, _, _, rfl, rfl, rfl, rfl, rfl, rfl⟩, rfl⟩ rfl rfl ?_); intro b0_5; refine S_q rfl rfl rfl (Q_build rfl (by decide +kernel) (zer rfl) ⟨_, _, _, _, _, _, _, rfl, fld rfl rfl, ty rfl, rfl, rfl, rfl, rfl⟩ rfl) ?_; refine S_load rfl rfl rfl rfl rfl ?_; refine L_agg (Rd.own m3) (ty rfl) (by first | rfl | assumption) ?_; refine S_q rfl rfl rfl (Q_build rfl (by decide +kernel) (zer rfl) ⟨_, _, _, _, _, _, _, rfl, fld rfl rfl, ty rfl, rfl, rfl, ⟨_, _, _, _, _, _, _, rfl, fld rfl rfl, ty rfl, rfl, rfl, ⟨_, _, _, _, _, _, _, rfl, fld rfl rfl, ty rfl, rfl, rfl, ⟨_, _, _, _, _, _, _, rfl, fld rfl rfl, ty rfl, rfl, rfl, rfl, rfl⟩, rfl⟩, rfl⟩, rfl⟩ rfl) ?_; refine S_c rfl rfl rfl (C_buildSlice rfl (elm rfl) (zer rfl) rfl ⟨_, _, _, rfl, rfl, rfl, rfl, rfl, rfl⟩ rfl rfl ?_); intro b0_6; refine S_load rfl rfl rfl rfl rfl ?_; refine L_agg (Rd.own m5) (ty rfl) (by first | rfl | assumption) ?_; refine S_q rfl rfl rfl (Q_build rfl (by decide +kernel) (zer rfl) ⟨_, _, _, _, _, _, _, rfl, fld rfl rfl, ty rfl, rfl, rfl, ⟨_, _, _, _, _, _, _, rfl, fld rfl rfl, ty rfl, rfl, rfl, rfl, rfl⟩, rfl⟩ rfl) ?_; refine S_c rfl rfl rfl (C_buildSlice rfl (elm rfl) (zer rfl) rfl ⟨_, _, _, rfl, rfl, rfl, rfl, rfl, rfl⟩ rfl rfl ?_); intro b0_7; refine S_q rfl rfl rfl (Q_build rfl (by decide +kernel) (zer rfl) ⟨_, _, _, _, _, _, _, rfl, fld rfl rfl, ty rfl, rfl, rfl, ⟨_, _, _, _, _, _, _, rfl, fld rfl rfl, ty rfl, rfl, rfl, ⟨_, _, _, _, _, _, _, rfl, fld rfl rfl, ty rfl, rfl, rfl, ⟨_, _, _, _, _, _, _, rfl, fld rfl rfl, ty rfl, rfl, rfl, rfl, rfl⟩, rfl⟩, rfl⟩, rfl⟩ rfl) ?_; refine S_load rfl rfl rfl rfl rfl ?_; refine L_agg (Rd.own m5) (ty rfl) (by first | rfl | assumption) ?_; refine S_q rfl rfl rfl (Q_build rfl (by decide +kernel) (zer rfl) ⟨_, _, _, _, _, _, _, rfl, fld rfl rfl, ty rfl, rfl, rfl, ⟨_, _, _, _, _, _, _, rfl, fld rfl rfl, ty rfl, rfl, rfl, rfl, rfl⟩, rfl⟩ rfl) ?_; refine S_load rfl rfl rfl rfl rfl ?_; refine L_agg (Rd.own m4) (ty rfl) (by first | rfl | assumption) ?_; refine S_q rfl rfl rfl (Q_build rfl (by decide +kernel) (zer rfl) ⟨_, _, _, _, _, _, _, rfl, fld rfl rfl, ty rfl, rfl, rfl, ⟨_, _, _, _, _, _, _, rfl, fld rfl rfl, ty rfl, rfl, rfl, rfl, rfl⟩, rfl⟩ rfl) ?_; refine S_c rfl rfl rfl (C_buildSlice rfl (elm rfl) (zer rfl) rfl ⟨_, _, _, rfl, rfl, rfl, rfl, ⟨_, _, _, rfl, rfl, rfl, rfl, rfl, rfl⟩, rfl⟩ rfl rfl ?_); intro b0_8; refine S_q rfl rfl rfl (Q_build rfl (by decide +kernel) (zer rfl) ⟨_, _, _, _, _, _, _, rfl, fld rfl rfl, ty rfl, rfl, rfl, rfl, rfl⟩ rfl) ?_; refine S_load rfl rfl rfl rfl rfl ?_; refine L_agg (Rd.own m6) (ty rfl) (by first | rfl | assumption) ?_; refine S_q rfl rfl rfl (Q_build rfl (by decide +kernel) (zer rfl) ⟨_, _, _, _, _, _, _, rfl, fld rfl rfl, ty rfl, rfl, rfl, ⟨_, _, _, _, _, _, _, rfl, fld rfl rfl, ty rfl, rfl, rfl, ⟨_, _, _, _, _, _, _, rfl, fld rfl rfl, ty rfl, rfl, rfl, rfl, rfl⟩, rfl⟩, rfl⟩ rfl) ?_; refine S_c rfl rfl rfl (C_buildSlice rfl (elm rfl) (zer rfl) rfl ⟨_, _, _, rfl, rfl, rfl, rfl, rfl, rfl⟩ rfl rfl ?_); intro b0_9; refine S_q rfl rfl rfl (Q_build rfl (by decide +kernel) (zer rfl) ⟨_, _, _, _, _, _, _, rfl, fld rfl rfl, ty rfl, rfl, rfl, ⟨_, _, _, _, _, _, _, rfl, fld rfl rfl, ty rfl, rfl, rfl, ⟨_, _, _, _, _, _, _, rfl, fld rfl rfl, ty rfl, rfl, rfl, rfl, rfl⟩, rfl⟩, rfl⟩ rfl) ?_; refine S_c rfl rfl rfl (C_buildSlice rfl (elm rfl) (zer rfl) rfl ⟨_, _, _, rfl, rfl, rfl, rfl, ⟨_, _, _, rfl, rfl, rfl, rfl, rfl, rfl⟩, rfl⟩ rfl rfl ?_); intro b0_10; refine Sm rfl ?_; refine On ?_; refine WP_ret ?_))
  refine pretK [] _ rfl (.inl rfl) rfl ⟨_, _, rfl, rfl, rfl⟩ fun h' hl' hm => ?_
  have e10 := hm _ m0
  have e9 := hm _ m1
  have e8 := hm _ m2
  have e7 := hm _ m3
  have e6 := hm _ m4
  have e5 := hm _ m5
  have e4 := hm _ m6
  clear hm
  have s4 : SL h' 4 ValC (.slice (some ⟨b0_4, 0, none⟩) 1 1) exA.fields := slb_of_at (at_of e4) (Flat.one rfl rfl rfl) (by decide)
  have s5 : SL h' 5 (NodeC 4398046511104) (.slice (some ⟨b0_5, 0, none⟩) 2 2) [exA, exB] := slb_of_at (at_of e5) (Flat.append (Flat.one rfl rfl ⟨_, _, rfl, s4⟩) (Flat.one rfl rfl ⟨_, _, rfl, SLB.nil _ _ _ _ _ _⟩)) (by decide)
  have s6 : SL h' 12 StubC (.slice (some ⟨b0_6, 0, none⟩) 1 1) [⟨2, 7, (2, 1), false, false⟩] := slb_of_at (at_of e6) (Flat.one rfl rfl ⟨_, _, _, _, _, _, rfl⟩) (by decide)
  have s7 : SL h' 3 NamedC (.slice (some ⟨b0_7, 0, none⟩) 1 1) [(1, 1)] := slb_of_at (at_of e7) (Flat.one rfl rfl ⟨_, rfl⟩) (by decide)
  have s8 : SL h' 5 (NodeC 4398046511104) (.slice (some ⟨b0_8, 0, none⟩) 2 2) [exB2, exC] := slb_of_at (at_of e8) (Flat.append (Flat.one rfl rfl ⟨_, _, rfl, SLB.nil _ _ _ _ _ _⟩) (Flat.one rfl rfl ⟨_, _, rfl, SLB.nil _ _ _ _ _ _⟩)) (by decide)
  have s9 : SL h' 12 ScionC (.slice (some ⟨b0_9, 0, none⟩) 1 1) [⟨1, 7, (2, 1)⟩] := slb_of_at (at_of e9) (Flat.one rfl rfl ⟨_, _, _, _, _, _, _, _, rfl⟩) (by decide)
  refine ⟨some ⟨b0_10, 0, none⟩, 2, rfl, slb_of_at (at_of e10) (Flat.append (Flat.one rfl rfl ⟨by unfold inI64; decide, _, _, _, _, _, _, _, _, _, _, _, _, _, _, _, _, _, _, _, rfl, s5, s6, ?_, s7, ?_, ?_, ?_⟩) (Flat.one rfl rfl ⟨by unfold inI64; decide, _, _, _, _, _, _, _, _, _, _, _, _, _, _, _, _, _, _, _, rfl, s8, ?_, s9, ?_, ?_, ?_, ?_⟩)) (by decide)⟩
  all_goals exact SLB.nil _ _ _ _ _ _
end Go.Proofs.YtfhoecgiahpddaaGreat
/-
  CONTRACT: awake (refmeshlaw55): the example of the chapter.
-/
set_option linter.all false
namespace Go.Proofs.YtfhoecgiahpddaaGreat
open Go.Mesh Go.RowKit
set_option maxRecDepth 100000
set_option linter.unusedVariables false
set_option maxHeartbeats 4000000
attribute [local irreducible] WP OPS ANY ANYo LG LV FSpec PSpec QOP OPc OPw thenQ blockQ roundQ roundF retQ retM Rd At SLB OS cmpI orI cmpID namedB valB nodeB kindB validG valAux idxI findG zeroV viewOf vwAt idxOf recv flyB scionOf moveOf numberedOf idOf valueOf mget mput localB carriedB stubOf followF followOf flOf flightsOf flPre setL minusL compactL putI mergeN insN insAll unionR NMap Coll retN bodyS GMap Dfs refsV refsOf reachL movedOf movedG graphParts graphR isMove flightIDs mailIDs viewIDs rawRoots rootsR reachR deadN viewObjs garbageOf garbageR objsL thereB oddB badNode lostF badStub safe1 safe2 safe3 safe4 safeR msgB sizesB smallV fewB
theorem ex_graph : graphR exV = ([exA, exB2, exC], 0) := by decide +kernel
theorem ex_roots : rootsR exV = [(1, 1)] := by decide +kernel
theorem ex_follow : followOf exV 1 (2, 1) = ([1, 2], 0) := by decide +kernel
theorem ex_reach : reachL [exA, exB2, exC] [(1, 1)] = [(1, 1), (2, 1)] := by
  refine SI_unique (SI_reachL _ _) (by unfold SI; decide +kernel) fun x => ?_
  rw [mem_reachL]
  have h1 : findG [exA, exB2, exC] (1, 1) = some exA := by decide +kernel
  have h2 : findG [exA, exB2, exC] (2, 1) = some exB2 := by decide +kernel
  have r1 : Reach [exA, exB2, exC] [(1, 1)] (1, 1) := .root (by simp) h1
  have r2 : Reach [exA, exB2, exC] [(1, 1)] (2, 1) := .step r1 h1 (by decide +kernel) h2
  constructor
  · intro h
    induction h with
    | root h1 _ => simp at h1; simp [h1]
    | step _ hm hx _ ih =>
      simp only [List.mem_cons, List.not_mem_nil, or_false] at ih
      rcases ih with rfl | rfl
      · rw [h1] at hm; cases hm
        have : refsOf exA = [(2, 1)] := by decide +kernel
        rw [this] at hx; simp at hx; simp [hx]
      · rw [h2] at hm; cases hm
        have : refsOf exB2 = [] := by decide +kernel
        rw [this] at hx; simp at hx
  · intro h
    simp only [List.mem_cons, List.not_mem_nil, or_false] at h
    rcases h with rfl | rfl
    · exact r1
    · exact r2
theorem ex_reachR : reachR exV = [(1, 1), (2, 1)] := by rw [reachR, ex_graph, ex_roots]; exact ex_reach
theorem ex_garbage : garbageR exV = 1 := by rw [garbageR, ex_reachR]; decide +kernel
theorem ex_safe : safeR exV = 0 := by rw [safeR, ex_graph, ex_roots, ex_reach]; decide +kernel
theorem ex_small : Small exV where
  len := by decide
  objs := by decide
  stubs := by decide
  scions := by decide
  names := by decide
  mail := by decide
  flights := by decide
  received := by decide
  fields := by decide
  args := by decide
  letter := by decide
  moved := by decide
  pmail := by decide
  pargs := by decide
theorem awake_s {h : Frag} : PSpec Tryz.prog 9 #[] h (fun _ v => v = .bool true) := by
  have hsm := ex_small
  have hlen := hsm.len
  have hr := ex_reachR
  refine pspec_of (vs := []) Tryz.func9 Tryz.ntmps9 rfl rfl ?_
  (focus (refine Wr ?_; refine Sm rfl ?_; refine On ?_; refine Wr ?_; refine S_c rfl rfl rfl (C_call (example_s) rfl rfl rfl (cal rfl) ?_); rintro h0_1 _ l0_1 ⟨pe0_1, qe0_1, rfl, fe0_1⟩; refine Sm rfl ?_; refine On ?_; refine Wr ?_; refine Sm rfl ?_; refine S_q rfl rfl rfl (Q_build rfl (by decide +kernel) (zer rfl) ⟨_, _, _, _, _, _, _, rfl, fld rfl rfl, ty rfl, rfl, rfl, ⟨_, _, _, _, _, _, _, rfl, fld rfl rfl, ty rfl, rfl, rfl, rfl, rfl⟩, rfl⟩ rfl) ?_; refine S_c rfl rfl rfl (C_call (follow_s (id := (_, _)) ‹_› (by omega)) rfl rfl ⟨_, _, rfl, ⟨_, _, rfl, ⟨_, _, rfl, rfl, rfl⟩, rfl⟩, rfl⟩ (cal rfl) ?_); rintro h0_2 _ l0_2 ⟨p0_2, q0_2, rfl, f0_2⟩; replace fe0_1 := fe0_1.up l0_2; refine Sm rfl ?_; refine S_q rfl rfl rfl (Q_extract rfl rfl rfl) ?_; refine S_q rfl rfl rfl (Q_extract rfl rfl rfl) ?_; refine Sm rfl ?_; refine Sm rfl ?_; refine On ?_; refine Wr ?_; refine Sm rfl ?_; refine S_c rfl rfl rfl (C_call (graph_s ‹_› ‹_›) rfl rfl ⟨_, _, rfl, rfl, rfl⟩ (cal rfl) ?_); rintro h0_3 _ l0_3 ⟨_, rfl, pg0_3, qg0_3, rfl, fg0_3⟩; replace f0_2 := f0_2.up l0_3; replace fe0_1 := fe0_1.up l0_3; refine Sm rfl ?_; refine S_q rfl rfl rfl (Q_extract rfl rfl rfl) ?_; refine S_q rfl rfl rfl (Q_extract rfl rfl rfl) ?_; refine S_c rfl rfl rfl (C_alloc rfl (zer rfl) ?_); intro b0_4; refine S_w0 rfl rfl (W_all rfl rfl rfl (ty rfl) u0 (by first | rfl | assumption) (by first | rfl | assumption) (by first | rfl | assumption | exact ones_sub ‹_› _ _) ?_); refine Sm rfl ?_; refine On ?_; refine Wr ?_; refine Sm rfl ?_; refine Sc rfl rfl rfl rfl rfl rfl rfl ?_; refine Sm rfl ?_; refine S_gsplit rfl rfl rfl rfl (fun c0_5 => ?_) (fun c0_5 => ?_) <;> (first | (simp [*] at c0_5; done) | (try simp at c0_5)); (focus (refine S_gq rfl rfl rfl rfl rfl rfl (Q_move rfl rfl) ?_; refine S_gc rfl rfl rfl rfl rfl rfl (C_buildSlice rfl (elm rfl) (zer rfl) rfl ⟨_, _, _, rfl, rfl, rfl, rfl, ⟨_, _, _, rfl, rfl, rfl, rfl, rfl, rfl⟩, rfl⟩ rfl rfl ?_); intro b0_6)); rotate_left 1; (focus (refine Sn rfl ?_; refine Sn rfl ?_; refine Sn rfl ?_; refine S_q rfl rfl rfl (Q_pick_f rfl rfl rfl) ?_; refine Sm rfl ?_; refine Sn rfl ?_; refine Sn rfl ?_; refine Sn rfl ?_; refine Sn rfl ?_; refine S_q rfl rfl rfl (Q_pick_f rfl rfl rfl) ?_; refine Sm rfl ?_; refine Sn rfl ?_; refine Sn rfl ?_; refine Sn rfl ?_; refine S_q rfl rfl rfl (Q_pick_f rfl rfl rfl) ?_; refine Sm rfl ?_; refine Sn rfl ?_; refine Sn rfl ?_; refine S_q rfl rfl rfl (Q_pick_f rfl rfl rfl) ?_; refine Sm rfl ?_; refine Sn rfl ?_; refine Sn rfl ?_; refine Sn rfl ?_; refine Sn rfl ?_; refine S_q rfl rfl rfl (Q_pick_f rfl rfl rfl) ?_; refine Sm rfl ?_; refine Sn rfl ?_; refine Sn rfl ?_; refine Sn rfl ?_; refine S_q rfl rfl rfl (Q_pick_f rfl rfl rfl) ?_; refine Sm rfl ?_; refine On ?_; refine WP_ret ?_)); rotate_left 1))
  · (focus (refine OPS_keepM [] [_] _ rfl ?_; rintro h1_k l1_k k1_k; have a1_k := at_of_keep k1_k; clear k1_k; replace fg0_3 := fg0_3.up l1_k; replace f0_2 := f0_2.up l1_k; replace fe0_1 := fe0_1.up l1_k))
    have hy : SL h1_k 1 IntC (.slice (some ⟨b0_6, 0, none⟩) 2 2) [1, 2] := slb_of_at a1_k (Flat.append (Flat.one rfl rfl rfl) (Flat.one rfl rfl rfl)) (by decide)
    refine S_gc rfl rfl rfl rfl rfl rfl (C_callv (ints_s f0_2 hy) rfl rfl ⟨_, _, rfl, ⟨_, _, rfl, rfl, rfl⟩, rfl⟩ (cal rfl) ?_)
    (focus (refine S_q rfl rfl rfl (Q_pick_t rfl rfl rfl) ?_; refine Sm rfl ?_; refine S_gsplit rfl rfl rfl rfl (fun c2_1 => ?_) (fun c2_1 => ?_) <;> (first | (simp [*] at c2_1; done) | (try simp at c2_1)); (focus (refine S_gq rfl rfl rfl rfl rfl rfl (Q_move rfl rfl) ?_; refine S_gc rfl rfl rfl rfl rfl rfl (C_call (reachable_s ‹_› ‹_›) rfl rfl ⟨_, _, rfl, rfl, rfl⟩ (cal rfl) ?_); rintro h2_2 _ l2_2 ⟨p2_2, q2_2, rfl, f2_2⟩; replace a1_k := a1_k.up l2_2; replace fg0_3 := fg0_3.up l2_2; replace f0_2 := f0_2.up l2_2; replace fe0_1 := fe0_1.up l2_2; replace hy := hy.up l2_2; refine S_gq rfl rfl rfl rfl rfl rfl (Q_len rfl rfl rfl rfl rfl rfl) ?_; refine S_gq rfl rfl rfl rfl rfl rfl (Q_cmp rfl rfl rfl rfl) ?_; refine S_q rfl rfl rfl (Q_pick_t rfl rfl rfl) ?_; refine Sm rfl ?_; refine S_gsplit rfl rfl rfl rfl (fun c2_3 => ?_) (fun c2_3 => ?_) <;> (first | (simp [*] at c2_3; done) | (try simp at c2_3)); refine S_gq rfl rfl rfl rfl rfl rfl (Q_move rfl rfl) ?_; refine S_gc rfl rfl rfl rfl rfl rfl (C_callv (garbage_s ‹_› ‹_›) rfl rfl ⟨_, _, rfl, rfl, rfl⟩ (cal rfl) ?_); refine S_gq rfl rfl rfl rfl rfl rfl (Q_cmp rfl rfl rfl rfl) ?_; refine S_q rfl rfl rfl (Q_pick_t rfl rfl rfl) ?_; refine Sm rfl ?_; refine S_gsplit rfl rfl rfl rfl (fun c2_4 => ?_) (fun c2_4 => ?_) <;> (first | (simp [*] at c2_4; done) | (try simp at c2_4)); (focus (refine S_gq rfl rfl rfl rfl rfl rfl (Q_move rfl rfl) ?_; refine S_gq rfl rfl rfl rfl rfl rfl (Q_cmp rfl rfl rfl rfl) ?_; refine S_q rfl rfl rfl (Q_pick_t rfl rfl rfl) ?_; refine Sm rfl ?_; refine S_gsplit rfl rfl rfl rfl (fun c2_5 => ?_) (fun c2_5 => ?_) <;> (first | (simp [*] at c2_5; done) | (try simp at c2_5)); (focus (refine S_gq rfl rfl rfl rfl rfl rfl (Q_fieldAddr rfl rfl (fld rfl rfl)) ?_; refine S_gload rfl rfl rfl rfl rfl rfl rfl rfl ?_; refine L_one (Rd.own m0) (ty rfl) ?_; refine S_gq rfl rfl rfl rfl rfl rfl (Q_len rfl rfl rfl rfl rfl rfl) ?_; refine S_gq rfl rfl rfl rfl rfl rfl (Q_cmp rfl rfl rfl rfl) ?_; refine S_q rfl rfl rfl (Q_pick_t rfl rfl rfl) ?_; refine Sm rfl ?_; refine S_gsplit rfl rfl rfl rfl (fun c2_6 => ?_) (fun c2_6 => ?_) <;> (first | (simp [*] at c2_6; done) | (try simp at c2_6)); (focus (refine S_gq rfl rfl rfl rfl rfl rfl (Q_move rfl rfl) ?_; refine S_gc rfl rfl rfl rfl rfl rfl (C_callv (safe_s ‹_› ‹_›) rfl rfl ⟨_, _, rfl, rfl, rfl⟩ (cal rfl) ?_); refine S_gq rfl rfl rfl rfl rfl rfl (Q_cmp rfl rfl rfl rfl) ?_; refine S_q rfl rfl rfl (Q_pick_t rfl rfl rfl) ?_; refine Sm rfl ?_; refine On ?_; refine WP_ret ?_)); rotate_left 1; (focus (refine Sn rfl ?_; refine Sn rfl ?_; refine Sn rfl ?_; refine S_q rfl rfl rfl (Q_pick_f rfl rfl rfl) ?_; refine Sm rfl ?_; refine On ?_; refine WP_ret ?_)); rotate_left 1)); rotate_left 2; (focus (refine Sn rfl ?_; refine Sn rfl ?_; refine Sn rfl ?_; refine Sn rfl ?_; refine S_q rfl rfl rfl (Q_pick_f rfl rfl rfl) ?_; refine Sm rfl ?_; refine Sn rfl ?_; refine Sn rfl ?_; refine Sn rfl ?_; refine S_q rfl rfl rfl (Q_pick_f rfl rfl rfl) ?_; refine Sm rfl ?_; refine On ?_; refine WP_ret ?_)); rotate_left 1)); rotate_left 3; (focus (refine Sn rfl ?_; refine Sn rfl ?_; refine S_q rfl rfl rfl (Q_pick_f rfl rfl rfl) ?_; refine Sm rfl ?_; refine Sn rfl ?_; refine Sn rfl ?_; refine Sn rfl ?_; refine Sn rfl ?_; refine S_q rfl rfl rfl (Q_pick_f rfl rfl rfl) ?_; refine Sm rfl ?_; refine Sn rfl ?_; refine Sn rfl ?_; refine Sn rfl ?_; refine S_q rfl rfl rfl (Q_pick_f rfl rfl rfl) ?_; refine Sm rfl ?_; refine On ?_; refine WP_ret ?_)); rotate_left 1)); rotate_left 4; (focus (refine Sn rfl ?_; refine Sn rfl ?_; refine Sn rfl ?_; refine Sn rfl ?_; refine S_q rfl rfl rfl (Q_pick_f rfl rfl rfl) ?_; refine Sm rfl ?_; refine Sn rfl ?_; refine Sn rfl ?_; refine Sn rfl ?_; refine S_q rfl rfl rfl (Q_pick_f rfl rfl rfl) ?_; refine Sm rfl ?_; refine Sn rfl ?_; refine Sn rfl ?_; refine S_q rfl rfl rfl (Q_pick_f rfl rfl rfl) ?_; refine Sm rfl ?_; refine Sn rfl ?_; refine Sn rfl ?_; refine Sn rfl ?_; refine Sn rfl ?_; refine S_q rfl rfl rfl (Q_pick_f rfl rfl rfl) ?_; refine Sm rfl ?_; refine Sn rfl ?_; refine Sn rfl ?_; refine Sn rfl ?_; refine S_q rfl rfl rfl (Q_pick_f rfl rfl rfl) ?_; refine Sm rfl ?_; refine On ?_; refine WP_ret ?_)); rotate_left 1))
    · refine pret (.inl rfl) rfl ⟨_, _, rfl, rfl, rfl⟩ ?_
      simp only [resOf]; rw [ex_safe]; rfl
    · exact absurd (by rw [ex_graph]; rfl) c2_6
    · exact absurd (by rw [ex_graph]) c2_5
    · exact absurd (by rw [ex_garbage]; rfl) c2_4
    · exact absurd (by rw [ex_follow]) c2_1
  · exact absurd (by rw [ex_follow]) c0_5
end Go.Proofs.YtfhoecgiahpddaaGreat
/-
  WHAT THE LAWS SHARE: small views are few and small; maps of identities to true.
-/
set_option linter.all false
namespace Go.Proofs.YtfhoecgiahpddaaGreat
open Go.Mesh Go.RowKit
set_option maxRecDepth 100000
set_option linter.unusedVariables false
set_option maxHeartbeats 4000000
attribute [local irreducible] WP OPS ANY ANYo LG LV FSpec PSpec QOP OPc OPw thenQ blockQ roundQ roundF retQ retM Rd At SLB OS cmpI orI cmpID namedB valB nodeB kindB validG valAux idxI findG zeroV viewOf vwAt idxOf recv flyB scionOf moveOf numberedOf idOf valueOf mget mput localB carriedB stubOf followF followOf flOf flightsOf flPre setL minusL compactL putI mergeN insN insAll unionR NMap Coll retN bodyS GMap Dfs refsV refsOf reachL movedOf movedG graphParts graphR isMove flightIDs mailIDs viewIDs rawRoots rootsR reachR deadN viewObjs garbageOf garbageR objsL thereB oddB badNode lostF badStub safe1 safe2 safe3 safe4 safeR msgB sizesB smallV fewB
theorem SLB.cast {α : Type} {B B' : Nat} {h : Frag} {k : Nat} {C C' : CR α} {v : Value} {xs : List α} (x : SLB B h k C v xs) (hl : xs.length ≤ B') (hc : ∀ y, y ∈ xs → ∀ cs, C h y cs → C' h y cs) : SLB B' h k C' v xs := by
  unfold SLB at x ⊢
  obtain ⟨_, ⟨p, cap, e, rfl⟩ | ⟨b, off, cap, e, g⟩⟩ := x
  · exact ⟨hl, .inl ⟨p, cap, e, rfl⟩⟩
  · refine ⟨hl, .inr ⟨b, off, cap, e, fun i y hy => ?_⟩⟩
    obtain ⟨vs, h1, h2, h3, h4⟩ := g i y hy
    exact ⟨vs, h1, h2, hc y (List.mem_of_getElem? hy) vs h3, h4⟩
theorem few_small {vs : List View} (h : fewB vs = true) : Small vs := by
  rw [fewB, Bool.and_eq_true, decide_eq_true_eq] at h
  obtain ⟨h, hl⟩ := h
  rw [List.all_eq_true] at h
  have hv : ∀ v, v ∈ vs → (v.objects.length ≤ 12 ∧ v.stubs.length ≤ 12 ∧ v.scions.length ≤ 12 ∧ v.names.length ≤ 6 ∧ v.mail.length ≤ 6 ∧ v.flights.length ≤ 6 ∧ v.received.length ≤ 10) ∧ (∀ n, n ∈ v.objects → n.fields.length ≤ 6) ∧ (∀ m, m ∈ v.mail → m.args.length ≤ 6) ∧
      ∀ x, x ∈ v.flights → x.msg.args.length ≤ 6 ∧ x.msg.parcel.fields.length ≤ 6 ∧ x.msg.parcel.mail.length ≤ 4 ∧ ∀ l, l ∈ x.msg.parcel.mail → l.length ≤ 6 := by
    intro v hv
    have := h v hv
    simp only [smallV, sizesB, Bool.and_eq_true, List.all_eq_true, decide_eq_true_eq, msgB] at this
    obtain ⟨h1, h2, h3, h4⟩ := this
    exact ⟨h1, h2, h3, h4⟩
  exact ⟨hl, fun v m => (hv v m).1.1, fun v m => (hv v m).1.2.1, fun v m => (hv v m).1.2.2.1, fun v m => (hv v m).1.2.2.2.1, fun v m => (hv v m).1.2.2.2.2.1, fun v m => (hv v m).1.2.2.2.2.2.1, fun v m => (hv v m).1.2.2.2.2.2.2,
    fun v m => (hv v m).2.1, fun v m => (hv v m).2.2.1, fun v m x hx => ((hv v m).2.2.2 x hx).1, fun v m x hx => ((hv v m).2.2.2 x hx).2.1, fun v m x hx => ((hv v m).2.2.2 x hx).2.2.1, fun v m x hx => ((hv v m).2.2.2 x hx).2.2.2⟩
theorem NodeC.cast {B B' : Nat} {h : Frag} {n : Nd} {cs : List Value} (x : NodeC B h n cs) (hl : n.fields.length ≤ B') : NodeC B' h n cs := by
  obtain ⟨p, c, e, s⟩ := x
  exact ⟨p, c, e, SLB.cast s hl fun _ _ _ y => y⟩
theorem slb_small {h : Frag} {a : Value} {vs : List View} (hs : SLB 9223372036854775807 h 13 (ViewC 9223372036854775807) a vs) (sm : Small vs) : SL h 13 (ViewC 4398046511104) a vs := by
  refine SLB.cast hs (Nat.le_trans sm.len (by decide)) fun v hv cs hc => ?_
  obtain ⟨hi, xa, po, qo, qs, qt, pc, qc, pn, qn, pm, qm, xw, xv, pf, qf, pr, qr, xe, xf, rfl, s1, s2, s3, s4, s5, s6, s7⟩ := hc
  have l1 := sm.objs v hv
  have l2 := sm.stubs v hv
  have l3 := sm.scions v hv
  have l4 := sm.names v hv
  have l5 := sm.mail v hv
  have l6 := sm.flights v hv
  have l7 := sm.received v hv
  refine ⟨hi, xa, po, qo, qs, qt, pc, qc, pn, qn, pm, qm, xw, xv, pf, qf, pr, qr, xe, xf, rfl, ?_, ?_, ?_, ?_, ?_, ?_, ?_⟩
  · exact SLB.cast s1 (by omega) fun n hn cs hc => NodeC.cast hc (Nat.le_trans (sm.fields v hv n hn) (by decide))
  · exact SLB.cast s2 (by omega) fun _ _ _ y => y
  · exact SLB.cast s3 (by omega) fun _ _ _ y => y
  · exact SLB.cast s4 (by omega) fun _ _ _ y => y
  · refine SLB.cast s5 (by omega) fun m hm cs hc => ?_
    obtain ⟨a, b, m', p, c, e, s⟩ := hc
    exact ⟨a, b, m', p, c, e, SLB.cast s (Nat.le_trans (sm.args v hv m hm) (by decide)) fun _ _ _ y => y⟩
  · refine SLB.cast s6 (by omega) fun x hx cs hc => ?_
    obtain ⟨a1, a2, b1, b2, b3, pa, qa, pf, qf, pm, qm, wv, y1, y2, y3, y4, y5, y6, y7, y8, y9, y10, y11, y12, y13, y14, y15, e, t1, t2, t3⟩ := hc
    refine ⟨a1, a2, b1, b2, b3, pa, qa, pf, qf, pm, qm, wv, y1, y2, y3, y4, y5, y6, y7, y8, y9, y10, y11, y12, y13, y14, y15, e, ?_, ?_, ?_⟩
    · exact SLB.cast t1 (Nat.le_trans (sm.letter v hv x hx) (by decide)) fun _ _ _ y => y
    · exact SLB.cast t2 (Nat.le_trans (sm.moved v hv x hx) (by decide)) fun _ _ _ y => y
    · refine SLB.cast t3 (Nat.le_trans (sm.pmail v hv x hx) (by decide)) fun l hl cs hc => ?_
      obtain ⟨a, b, m, p, c, e, s⟩ := hc
      exact ⟨a, b, m, p, c, e, SLB.cast s (Nat.le_trans (sm.pargs v hv x hx l hl) (by decide)) fun _ _ _ y => y⟩
  · exact SLB.cast s7 (by omega) fun _ _ _ y => y
/-- a map in which what is in s is true -/
def BMap (ps : List (ID × Value)) (s : List ID) : Prop := ∀ id, mget id ps = if id ∈ s then some (.bool true) else none
theorem BMap_nil : BMap [] [] := fun id => by simp [mget]
theorem BMap_put {ps : List (ID × Value)} {s : List ID} (x : BMap ps s) (id : ID) : BMap (mput id (.bool true) ps) (s ++ [id]) := fun k => by
  rw [mget_mput, x k]
  by_cases h1 : id = k
  · subst h1; simp
  · by_cases h2 : k ∈ s
    · simp [h1, h2]
    · simp [h1, h2, Ne.symm h1]
theorem BMap_at {ps : List (ID × Value)} {s : List ID} (x : BMap ps s) {i : Nat} {k : ID} {v : Value} (h : ps[i]? = some (k, v)) : k ∈ s := by
  have := x k
  by_cases hk : k ∈ s
  · exact hk
  · rw [if_neg hk] at this
    exact absurd (List.mem_map.2 ⟨_, List.mem_of_getElem? h, rfl⟩) (mget_none_keys this)
theorem BMap_get {ps : List (ID × Value)} {s : List ID} (x : BMap ps s) {id : ID} (h : id ∈ s) : mget id ps = some (.bool true) := by rw [x id, if_pos h]
/-- the places of a map that a range has come by -/
def Seen (n : Nat) (seen : List Nat) : Prop := seen.Nodup ∧ ∀ i, i ∈ seen → i < n
theorem Seen_nil (n : Nat) : Seen n [] := ⟨List.nodup_nil, by simp⟩
theorem Seen_snoc {n i : Nat} {seen : List Nat} (x : Seen n seen) (hi : i ∉ seen) (hn : i < n) : Seen n (seen ++ [i]) := by
  refine ⟨?_, fun j hj => ?_⟩
  · rw [List.nodup_append]
    exact ⟨x.1, by simp, fun a ha b hb e => hi (by simp at hb; subst hb; subst e; exact ha)⟩
  · rcases List.mem_append.1 hj with h | h
    · exact x.2 j h
    · simp at h; omega
theorem Seen_le {n : Nat} {seen : List Nat} (x : Seen n seen) : seen.length ≤ n := by
  have := nodup_subN seen (List.range n) x.1 fun i hi => List.mem_range.2 (x.2 i hi)
  simpa using this
attribute [local irreducible] BMap Seen
end Go.Proofs.YtfhoecgiahpddaaGreat
/-
  RULES: parts of slices whose capacity is known.
-/
set_option linter.all false
namespace Go.Mesh
open Go.RowKit
set_option linter.unusedVariables false
section
variable {α : Type} {B : Nat} {h : Frag} {k e : Nat} {C : CR α} {v : Value} {xs : List α} {M : Hp}
theorem OS.cap {p : Option Addr} {n c : Nat} (s : OS h e k C (.slice p n c) xs M) : n = xs.length ∧ n ≤ c := by
  obtain ⟨us, ⟨hu, ⟨h0, h1, _⟩ | ⟨b, cap, rest, h0, rfl, h2, h3⟩⟩, f⟩ := s
  · cases h0; exact ⟨by omega, by omega⟩
  · cases h0; exact ⟨rfl, h3⟩
/-- v[:u] -/
def toV (p : Option Addr) (k u cap : Nat) : Value := .slice (if cap = 0 then p else p.map (·.add (0 * k))) u cap
/-- v[u:] -/
def fromV (p : Option Addr) (k u n cap : Nat) : Value := .slice (if cap = u then p else p.map (·.add (u * k))) (n - u) (cap - u)
theorem SLB.toV {p : Option Addr} {n cap u : Nat} (s : SLB B h k C (.slice p n cap) xs) (hc : n ≤ cap) (hu : u ≤ n) : SLB B h k C (toV p k u cap) (xs.take u) := by
  obtain ⟨hm, ⟨p', c', e, rfl⟩ | ⟨b, off, c', e, g⟩⟩ := s
  · cases e
    have : u = 0 := by omega
    subst this
    exact SLB.nil _ _ _ _ _ _
  · cases e
    have hl : (xs.take u).length = u := by rw [List.length_take]; omega
    unfold Mesh.toV
    by_cases h0 : cap = 0
    · have : xs.take u = [] := by apply List.eq_nil_of_length_eq_zero; omega
      rw [this]
      have : u = 0 := by omega
      subst this
      exact SLB.nil _ _ _ _ _ _
    · refine ⟨by omega, .inr ⟨b, off, cap, ?_, fun i x hx => ?_⟩⟩
      · rw [if_neg h0, hl]; simp [Addr.add]
      · rw [List.getElem?_take] at hx
        split at hx
        · exact g i x hx
        · cases hx
theorem SLB.fromV {p : Option Addr} {n cap u : Nat} (s : SLB B h k C (.slice p n cap) xs) (hc : n ≤ cap) (hu : u ≤ n) : SLB B h k C (fromV p k u n cap) (xs.drop u) := by
  obtain ⟨hm, ⟨p', c', e, rfl⟩ | ⟨b, off, c', e, g⟩⟩ := s
  · cases e
    have : u = 0 := by omega
    subst this
    exact SLB.nil _ _ _ _ _ _
  · cases e
    have hl : (xs.drop u).length = xs.length - u := List.length_drop
    unfold Mesh.fromV
    by_cases h0 : cap = u
    · have h1 : xs.drop u = [] := by apply List.eq_nil_of_length_eq_zero; omega
      rw [h1]
      have : xs.length - u = 0 := by omega
      rw [this]
      exact SLB.nil _ _ _ _ _ _
    · refine ⟨by omega, .inr ⟨b, off + u * k, cap - u, ?_, fun i x hx => ?_⟩⟩
      · rw [if_neg h0, hl]; simp [Addr.add]
      · rw [List.getElem?_drop] at hx
        obtain ⟨vs, h1, h2, h3, h4⟩ := g _ x hx
        rw [Nat.add_mul, ← Nat.add_assoc] at h4
        exact ⟨vs, h1, h2, h3, h4⟩
variable {P : Program} {r : Option Nat} {L : Hp} {fr : Fr} {o : Oper}
theorem Q_slTo {t e k by_ : Nat} {s x : Operand} {p : Option Addr} {n cap u : Nat} {q : IntKind} (hop : o.op = .slice t s none (some x) none) (hs : ev fr s = some (.slice p n cap)) (he : elemOf? P t = some (e, k, by_)) (hx : ev fr x = some (.int q (u : Int))) (hu : u ≤ cap) :
    QOP P o fr h L (toV p k u cap) :=
  ⟨fun c => by rw [hop]; simp, fun a ha w _ => by
    obtain ⟨hu', i0, hi0, hk, _⟩ := elemOf?_spec he
    unfold execOp; rw [hop]
    have huc' : ((u : Int) ≤ (cap : Int)) := by omega
    simp [toV, ha s _ hs, ha x _ hx, Instr.sliceAt, run_underlying' hu', Instr.slice, Instr.sliceBounds, Instr.sliceBound, asIntOf, huc', hu, sizeOf, typeInfo, hi0, hk]⟩
theorem Q_slFrom {t e k by_ : Nat} {s x : Operand} {p : Option Addr} {n cap u : Nat} {q : IntKind} (hop : o.op = .slice t s (some x) none none) (hs : ev fr s = some (.slice p n cap)) (he : elemOf? P t = some (e, k, by_)) (hx : ev fr x = some (.int q (u : Int))) (hu : u ≤ n) :
    QOP P o fr h L (fromV p k u n cap) :=
  ⟨fun c => by rw [hop]; simp, fun a ha w _ => by
    obtain ⟨hu', i0, hi0, hk, _⟩ := elemOf?_spec he
    unfold execOp; rw [hop]
    have huc' : ((u : Int) ≤ (n : Int)) := by omega
    simp [fromV, ha s _ hs, ha x _ hx, Instr.sliceAt, run_underlying' hu', Instr.slice, Instr.sliceBounds, Instr.sliceBound, asIntOf, huc', hu, sizeOf, typeInfo, hi0, hk]⟩
theorem L_oelF {α : Type} {h : Frag} {k j fo e : Nat} {C : CR α} {v : Value} {xs : List α} {x : α} {M L : Hp} {P : Program} {t : TypeId} {K : Value → Prop} (A B' : Hp) (s : OS h e k C v xs M) (hx : xs[j]? = some x) (hL : L = A ++ (M ++ B')) (kk : ∀ vs, vs.length = k → ones vs = true → C h x vs → LV P vs fo t K) : LG P h L (blk v) (ofs v + j * k + fo) t K := by
  obtain ⟨_, _, vs, h1, h2, h3, h4⟩ := s.at hx
  exact LV.lg (h4 L (fun p hp => by rw [hL]; simp [hp])) (kk vs h1 h2 h3)
/-- append(xs, y): the block of the one element stands behind what is owned -/
theorem W_app1b {α : Type} {h : Frag} {k ee : Nat} {C : CR α} {K : OCont} {L : Hp} {fr : Fr} {P : Program} {r : Option Nat} {o : Oper} {c : Call} {s x : Operand} {t by_ b : Nat} {v : Value} {xs : List α} {y : α} {vs z : List Value} {M : Hp} (A A2 : Hp) (hos : OS h ee k C v xs M) (hop : o.op = .call c) (hc : c.callee = .builtin .append) (ha : c.args = #[s, x]) (hat : c.argTypes = #[t, t])
    (hs : ev fr s = some v) (hx : ev fr x = some (.slice (some ⟨b, 0, none⟩) 1 1)) (he : elemOf? P t = some (ee, k, by_)) (hz : zeroOf P ee = some z) (hzk : z.length = k) (hL : L = A ++ (M ++ ((b, cells vs ee) :: A2))) (hvs : vs.length = k) (h1 : ones vs = true) (hy : C h y vs)
    (hb : (xs.length + 1) * by_ ≤ 140737488355328) (hnm : xs.length + 1 ≤ 9223372036854775807) (kk : ∀ p c M', OS h ee k C (.slice p (xs ++ [y]).length c) (xs ++ [y]) M' → K h (A ++ (M' ++ A2)) (.slice p (xs ++ [y]).length c)) : OPw P r o fr h L K := by
  refine OPw_perm (L2 := (b, cells vs ee) :: (A ++ (M ++ A2))) (by rw [hL, ← List.append_assoc, ← List.append_assoc]; exact List.perm_middle) ?_
  exact W_app1 A A2 hos hop hc ha hat hs hx he hz hzk rfl hvs h1 hy hb hnm kk
end
end Go.Mesh
/-
  RULES: what is left over by a division.
-/
set_option linter.all false
namespace Go.Mesh
open Go.RowKit
section
variable {P : Program} {r : Option Nat} {h : Frag} {L : Hp} {fr : Fr} {o : Oper}
theorem Q_rem {t u : TypeId} {x y : Operand} {k : IntKind} {a b : Int} {m n : Nat} (hop : o.op = .binOp .rem t x y u) (hx : ev fr x = some (.int k a)) (hy : ev fr y = some (.int k b)) (ha : a = m) (hb : b = n) (h0 : 0 < n) : QOP P o fr h L (.int k ((m % n : Nat) : Int)) :=
  ⟨fun c => by rw [hop]; simp, fun ac hac w _ => by
    subst ha hb
    unfold execOp; rw [hop]
    have hn : ¬ (n = 0) := by omega
    have ht : (m : Int).tmod n = ((m % n : Nat) : Int) := rfl
    simp [hac x _ hx, hac y _ hy, eqGuard, binOp, Op.intDiv, hn, ht]⟩
end
end Go.Mesh
/-
  A REGION THAT DRAWS ITS ORDER, FOURTH PART: the question whether an operation may be taken first, asked of what has not come up alone (quick in large regions).
-/
set_option linter.all false
namespace Go.Mesh
open Go.RowKit
set_option linter.unusedVariables false
def ancL (ops : Array Oper) (listed : Array Bool) (i : Nat) : Nat → Nat → Bool
  | 0, _ => false
  | f + 1, j => bif listed.getD j false then false else match ops[j]? with
    | none => false
    | some o => o.after.any fun e => Region.binds .any e && (e.on == i || ancL ops listed i f e.on)
theorem ancL_anc {ops : Array Oper} {listed : Array Bool} {i : Nat} : ∀ (f j : Nat), ancL ops listed i f j = true → anc ops i f j = true
  | 0, _, h => by cases h
  | f + 1, j, h => by
    unfold ancL at h
    cases hl : listed.getD j false with
    | true => rw [hl] at h; cases h
    | false =>
      rw [hl] at h
      simp only [cond_false] at h
      unfold anc
      cases ho : ops[j]? with
      | none => rw [ho] at h; cases h
      | some o =>
        rw [ho] at h
        simp only at h ⊢
        rw [Array.any_eq_true] at h ⊢
        obtain ⟨k, hk, h⟩ := h
        refine ⟨k, hk, ?_⟩
        rw [Bool.and_eq_true, Bool.or_eq_true] at h ⊢
        exact ⟨h.1, h.2.imp id (ancL_anc f _)⟩
def firstL (ops : Array Oper) (listed : Array Bool) (i : Nat) : Bool :=
  closedB ops listed && (match ops[i]? with
    | none => false
    | some oi => calmOp oi.op && (List.range ops.size).all fun j => j == i || listed.getD j true || ancL ops listed i ops.size j || (match ops[j]? with | none => true | some oj => oi.apart ops oj && calmOp oj.op)) && (Region.ready .any ops listed).contains i
theorem fbL {ops : Array Oper} {listed : Array Bool} {i : Nat} (h : firstL ops listed i = true) : firstB ops listed i = true := by
  unfold firstL at h
  unfold firstB okFirst
  cases hi : ops[i]? with
  | none => rw [hi] at h; simp at h
  | some oi =>
    rw [hi] at h
    simp only [Bool.and_eq_true] at h ⊢
    obtain ⟨⟨h1, h2, h3⟩, h4⟩ := h
    refine ⟨⟨h1, h2, ?_⟩, h4⟩
    rw [List.all_eq_true] at h3 ⊢
    intro j hj
    have := h3 j hj
    simp only [Bool.or_eq_true] at this ⊢
    rcases this with ((a | a) | a) | a
    · exact .inl (.inl (.inl a))
    · exact .inl (.inl (.inr a))
    · exact .inl (.inr (ancL_anc _ _ a))
    · exact .inr a
def firstPL (ops : Array Oper) (listed : Array Bool) (i : Nat) : Bool :=
  closedB ops listed && (match ops[i]? with
    | none => false
    | some oi => tameOp oi.op && (List.range ops.size).all fun j => j == i || listed.getD j true || ancL ops listed i ops.size j || (match ops[j]? with | none => true | some oj => oi.apart ops oj && tameOp oj.op)) && (Region.ready .any ops listed).contains i
theorem fpL {ops : Array Oper} {listed : Array Bool} {i : Nat} (h : firstPL ops listed i = true) : firstP ops listed i = true := by
  unfold firstPL at h
  unfold firstP
  cases hi : ops[i]? with
  | none => rw [hi] at h; simp at h
  | some oi =>
    rw [hi] at h
    simp only [Bool.and_eq_true] at h ⊢
    obtain ⟨⟨h1, h2, h3⟩, h4⟩ := h
    refine ⟨⟨h1, h2, ?_⟩, h4⟩
    rw [List.all_eq_true] at h3 ⊢
    intro j hj
    have := h3 j hj
    simp only [Bool.or_eq_true] at this ⊢
    rcases this with ((a | a) | a) | a
    · exact .inl (.inl (.inl a))
    · exact .inl (.inl (.inr a))
    · exact .inl (.inr (ancL_anc _ _ a))
    · exact .inr a
end Go.Mesh
