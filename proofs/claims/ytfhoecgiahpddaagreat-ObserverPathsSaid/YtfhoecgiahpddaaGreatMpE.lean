/- For every list of views, machine and identity: ObserverPaths returns true and leaves its arguments as they were. No condition. -/
import Derived.ChangeArms
import Derived.ChangeReads
import Derived.WideShapes
import Derived.Test.YtfhoecgiahpddaaGreatChecked
import Derived.KernelRfl
import Derived.Test.YtfhoecgiahpddaaGreatRows
import Derived.WalkKit
import Derived.ProofKit
import Derived.OpenShut
import Derived.Carry
import Derived.Test.YtfhoecgiahpddaaGreatMpA
import Derived.Test.YtfhoecgiahpddaaGreatMpB
import Derived.Test.YtfhoecgiahpddaaGreatMpC
import Derived.Test.YtfhoecgiahpddaaGreatMpD
/-
  THE LAW ObserverPaths returns true.
-/
set_option linter.all false
namespace Go.Proofs.YtfhoecgiahpddaaGreat
open Go.Mesh Go.RowKit
set_option maxRecDepth 100000
set_option linter.unusedVariables false
set_option maxHeartbeats 4000000
attribute [local irreducible] WP OPS ANY ANYo LG LV FSpec PSpec QOP OPc OPw thenQ blockQ roundQ roundF retQ retM Rd At SLB OS cmpI orI cmpID namedB valB nodeB kindB validG valAux idxI findG zeroV viewOf vwAt idxOf recv flyB scionOf moveOf numberedOf idOf valueOf mget mput localB carriedB stubOf followF followOf flOf flightsOf flPre setL minusL compactL putI mergeN insN insAll unionR NMap Coll retN bodyS GMap Dfs refsV refsOf reachL movedOf movedG graphParts graphR isMove flightIDs mailIDs viewIDs rawRoots rootsR reachR deadN viewObjs garbageOf garbageR objsL msgB sizesB smallV fewB homeR homeF carries thereB oddB badNode lostF badStub safe1 safe2 safe3 safe4 safeR BMap Seen
theorem homesN_take {vs : List View} {id : ID} {k : Nat} {v : View} (hv : vs[k]? = some v) : homesN (vs.take (k + 1)) id = homesN (vs.take k) id + (if localB v id then 1 else 0) := by
  rw [homesN, homesN, List.take_add_one, hv]
  cases h : localB v id <;> simp [h]
/-- a stub that leads on -/
def leads (id : ID) (y : Int) (s : StubE) : Bool := decide (s.id = id) && (decide (s.owner = y) && !s.dead)
theorem leads_def (id : ID) (y : Int) (s : StubE) : leads id y s = (decide (s.id = id) && (decide (s.owner = y) && !s.dead)) := rfl
theorem any_take {α : Type} (p : α → Bool) {l : List α} {k : Nat} {x : α} (hx : l[k]? = some x) : (l.take (k + 1)).any p = ((l.take k).any p || p x) := by
  rw [List.take_add_one, hx]; simp
theorem homesN_le (vs : List View) (id : ID) : homesN vs id ≤ vs.length := by rw [homesN]; exact List.length_filter_le _ _
theorem homesN_nil (id : ID) : homesN [] id = 0 := rfl
attribute [local irreducible] homesN leads
theorem paths_s {h : Frag} {a : Value} {vs : List View} {m : Int} {id : ID} (hs : SLB 9223372036854775807 h 13 (ViewC 9223372036854775807) a vs) : PSpec Tryz.prog 5 #[a, .int .i64 m, .agg (idc id).toArray] h (fun _ v => v = .bool true) := by
  obtain ⟨pv, cv, rfl⟩ := hs.slice
  obtain ⟨i1, i2⟩ := id
  refine pspec_of (vs := [.slice pv vs.length cv, .int .i64 m, .agg (idc (i1, i2)).toArray]) Tryz.func5 Tryz.ntmps5 rfl rfl ?_
  by_cases hfew : fewB vs = true
  · have sm := few_small hfew
    have hB := hs
    replace hs := slb_small hs sm
    have hlen := sm.len
    by_cases h0 : (followOf vs m (i1, i2)).2 = 0
    · have way := follow_way h0
      have h00 := way.head
      (focus (refine WP_seq ?_; refine R_region ?_; refine S_c rfl rfl rfl (C_box rfl rfl ?_); intro b0_1; refine S_q rfl rfl rfl (Q_assign rfl rfl) ?_; refine OPS_nil ?_; refine then_n ?_; refine WP_seq ?_; refine WP_seq ?_; refine R_region ?_; refine S_c rfl rfl rfl (C_callv (awake_s) rfl rfl rfl (cal rfl) ?_); refine S_q rfl rfl rfl (Q_not rfl rfl) ?_; refine OPS_nil ?_; refine then_n ?_; refine cond_f rfl ?_; refine WP_skip ?_; refine then_n ?_; refine WP_seq ?_; refine WP_seq ?_; refine R_region ?_; refine S_q rfl rfl rfl (Q_move rfl rfl) ?_; refine S_c rfl rfl rfl (C_callv (few_s (by assumption)) rfl rfl ⟨_, _, rfl, rfl, rfl⟩ (cal rfl) ?_); refine S_q rfl rfl rfl (Q_not rfl rfl) ?_; refine OPS_nil ?_; refine then_n ?_; refine WP_cond rfl (fun c0_2 => ?_) (fun c0_2 => ?_) <;> (first | (simp [*] at c0_2; done) | (try simp at c0_2)); refine WP_skip ?_; refine then_n ?_; refine WP_seq ?_; refine R_region ?_; refine S_q rfl rfl rfl (Q_move rfl rfl) ?_; refine S_q rfl rfl rfl (Q_move rfl rfl) ?_; refine S_load rfl rfl rfl rfl rfl ?_; refine L_agg (Rd.own m0) (ty rfl) (by first | rfl | assumption) ?_; refine S_c rfl rfl rfl (C_call (follow_s (by assumption) (by omega)) rfl rfl ⟨_, _, rfl, ⟨_, _, rfl, ⟨_, _, rfl, rfl, rfl⟩, rfl⟩, rfl⟩ (cal rfl) ?_); rintro h0_3 _ l0_3 ⟨p0_3, q0_3, rfl, f0_3⟩; replace hB := hB.up l0_3; replace hs := hs.up l0_3; refine S_q rfl rfl rfl (Q_move rfl rfl) ?_; refine S_q rfl rfl rfl (Q_extract rfl rfl rfl) ?_; refine S_q rfl rfl rfl (Q_extract rfl rfl rfl) ?_; refine S_q rfl rfl rfl (Q_assign rfl rfl) ?_; refine S_q rfl rfl rfl (Q_assign rfl rfl) ?_; refine OPS_nil ?_; refine then_n ?_; refine WP_seq ?_; refine WP_seq ?_; refine R_region ?_; refine S_q rfl rfl rfl (Q_move rfl rfl) ?_; refine S_q rfl rfl rfl (Q_cmp rfl rfl rfl rfl) ?_; refine OPS_nil ?_; refine then_n ?_; refine WP_cond rfl (fun c0_4 => ?_) (fun c0_4 => ?_) <;> (first | (simp [*] at c0_4; done) | (try simp at c0_4)); refine WP_skip ?_; refine then_n ?_; refine WP_seq ?_; refine WP_seq ?_; refine R_region ?_; refine S_q rfl rfl rfl (Q_move rfl rfl) ?_; refine S_q rfl rfl rfl (Q_len rfl rfl rfl rfl rfl rfl) ?_; refine S_q rfl rfl rfl (Q_cmp rfl rfl rfl rfl) ?_; refine S_q rfl rfl rfl (Q_move rfl rfl) ?_; refine S_gsplit rfl rfl rfl rfl (fun c0_5 => ?_) (fun c0_5 => ?_) <;> (first | (simp [*] at c0_5; done) | (try simp at c0_5)); (focus (refine S_gn rfl rfl rfl rfl rfl rfl ?_; refine S_gn rfl rfl rfl rfl rfl rfl ?_; refine S_gn rfl rfl rfl rfl rfl rfl ?_; refine S_gn rfl rfl rfl rfl rfl rfl ?_; refine S_gn rfl rfl rfl rfl rfl rfl ?_; refine S_q rfl rfl rfl (Q_pick_t rfl rfl rfl) ?_; refine OPS_nil ?_; refine then_n ?_; refine cond_t rfl ?_; refine WP_seq ?_; refine R_region ?_; refine S_q rfl rfl rfl (Q_assign rfl rfl) ?_; refine OPS_nil ?_; refine then_n ?_; refine WP_ret ?_; refine then_r ?_)); rotate_left 1; (focus (refine S_gq rfl rfl rfl rfl rfl rfl (Q_move rfl rfl) ?_; refine S_gq rfl rfl rfl rfl rfl rfl (Q_indexS (by assumption) (by assumption) rfl rfl rfl (elm rfl) rfl) ?_; refine S_gload rfl rfl rfl rfl rfl rfl rfl rfl ?_; refine L_el1 (by assumption) (by assumption) (ty rfl) ?_; rintro _ ⟨⟩; refine S_gq rfl rfl rfl rfl rfl rfl (Q_move rfl rfl) ?_; refine S_gq rfl rfl rfl rfl rfl rfl (Q_cmp rfl rfl rfl rfl) ?_; refine S_q rfl rfl rfl (Q_pick_f rfl rfl rfl) ?_; refine OPS_nil ?_; refine then_n ?_; refine WP_cond rfl (fun c0_7 => ?_) (fun c0_7 => ?_) <;> (first | (simp [*] at c0_7; done) | (try simp at c0_7)); refine WP_skip ?_; refine then_n ?_; refine WP_seq ?_; refine R_region ?_; refine S_q rfl rfl rfl (Q_assign rfl rfl) ?_; refine OPS_nil ?_; refine then_n ?_; refine WP_seq ?_; refine WP_seq ?_; refine R_region ?_; refine S_q rfl rfl rfl (Q_move rfl rfl) ?_; refine S_q rfl rfl rfl (Q_len rfl rfl rfl rfl rfl rfl) ?_; refine S_q rfl rfl rfl (Q_move rfl rfl) ?_; refine OPS_nil ?_; refine then_n ?_; refine WP_block ?_)); rotate_left 1))
      · rw [c0_5] at h00; simp at h00
      have hsteps := way.steps
      have honce := way.once
      have hends := way.ends
      clear way
      generalize (followOf vs m (i1, i2)).1 = w at *
      (focus (refine WP_keepM [] [_] _ rfl ?_; rintro h1_k l1_k k1_k; have a1_k := at_of_keep k1_k; clear k1_k; replace hB := hB.up l1_k; replace hs := hs.up l1_k; replace f0_3 := f0_3.up l1_k))
      (refine WP_loopC (α := Nat × Nat) [58, 7, 5, 0] (fun (s : Nat × Nat) => vs.length - s.1) (fun (s : Nat × Nat) => [(59, .int .i64 (s.1 : Int)), (9, .int .i64 (s.2 : Int))]) (fun hh (s : Nat × Nat) => hh = h1_k ∧ s.1 ≤ vs.length ∧ s.2 = homesN (vs.take s.1) (i1, i2)) (0, 0) ⟨_, _, rfl, ⟨_, _, rfl, ⟨_, _, rfl, ⟨_, _, rfl, rfl, rfl⟩, rfl⟩, rfl⟩, rfl⟩ (by repeat' (first | exact trivial | refine ⟨rfl, ?_⟩)) ?_ ?_)
      · exact ⟨rfl, Nat.zero_le _, by simp [homesN_nil]⟩
      rintro h1 ⟨k, n⟩ _ ⟨rfl, hk, hn⟩
      simp only at hk hn
      dsimp only
      have hhk := homesN_le (vs.take k) (i1, i2)
      rw [List.length_take] at hhk
      by_cases hlt : k < vs.length
      · obtain ⟨v, ev⟩ := get_of hlt
        have htk := homesN_take (id := (i1, i2)) ev
        (focus (refine WP_seq ?_; refine R_region ?_; refine S_q rfl rfl rfl (Q_cmp rfl rfl rfl rfl) ?_; refine OPS_nil ?_; refine then_n ?_; refine WP_seq ?_; refine WP_cond rfl (fun c3_1 => ?_) (fun c3_1 => ?_) <;> (first | (simp [*] at c3_1; done) | (try simp at c3_1)); refine WP_skip ?_; refine then_n ?_; refine WP_seq ?_; refine WP_block ?_; refine WP_seq ?_; refine R_region ?_; refine S_q rfl rfl rfl (Q_move rfl rfl) ?_; refine S_q rfl rfl rfl (Q_assign rfl rfl) ?_; refine OPS_nil ?_; refine then_n ?_; refine WP_seq ?_; refine R_draw (n := 6) mixed rfl ?_; refine A_at 0 rfl rfl ?_; refine A_q (m' := 1) rfl rfl rfl (Q_move rfl rfl) rfl (by decide +kernel) ?_; refine A_at 1 rfl rfl ?_; refine A_q (m' := 3) rfl rfl rfl (Q_move rfl rfl) rfl (by decide +kernel) ?_; refine A_at 2 rfl rfl ?_; refine A_q (m' := 7) rfl rfl rfl (Q_indexS (by assumption) (by assumption) rfl rfl rfl (elm rfl) rfl) rfl (by decide +kernel) ?_; refine A_at 3 rfl rfl ?_; refine A_load (m' := 15) rfl rfl rfl rfl rfl rfl (by decide +kernel) ?_; refine L_elA (by assumption) (by assumption) (ty rfl) ?_; rintro _ _ _ ⟨xi3_2, xa3_2, po3_2, qo3_2, ps3_2, qs3_2, pc3_2, qc3_2, pn3_2, qn3_2, pm3_2, qm3_2, xw3_2, xv3_2, pf3_2, qf3_2, pr3_2, qr3_2, xe3_2, xf3_2, rfl, vo3_2, vs3_2, vc3_2, vn3_2, vm3_2, vf3_2, vr3_2⟩; refine A_at 4 rfl rfl ?_; refine A_load (m' := 31) rfl rfl rfl rfl rfl rfl (by decide +kernel) ?_; refine L_agg (Rd.pers (by assumption)) (ty rfl) (by first | rfl | assumption) ?_; refine A_at 5 rfl rfl ?_; refine A_c (m' := 63) rfl rfl rfl rfl (by decide +kernel) (C_callv (refLocal_s ⟨by assumption, _, _, _, _, _, _, _, _, _, _, _, _, _, _, _, _, _, _, _, rfl, by assumption, by assumption, by assumption, by assumption, by assumption, by assumption, by assumption⟩) rfl rfl ⟨_, _, rfl, ⟨_, _, rfl, rfl, rfl⟩, rfl⟩ (cal rfl) ?_); refine A_done (by decide +kernel) ?_; refine then_n ?_; refine WP_cond rfl (fun c3_3 => ?_) (fun c3_3 => ?_) <;> (first | (simp [*] at c3_3; done) | (try simp at c3_3)); (focus (refine R_region ?_; refine S_q rfl rfl rfl (Q_move rfl rfl) ?_; refine S_q rfl rfl rfl (Q_add rfl rfl rfl (by omega)) ?_; refine S_q rfl rfl rfl (Q_assign rfl rfl) ?_; refine OPS_nil ?_; refine block_n ?_; refine then_n ?_; refine R_region ?_; refine S_q rfl rfl rfl (Q_add rfl rfl rfl (by omega)) ?_; refine S_q rfl rfl rfl (Q_move rfl rfl) ?_; refine OPS_nil ?_)); rotate_left 1; (focus (refine WP_skip ?_; refine block_n ?_; refine then_n ?_; refine R_region ?_; refine S_q rfl rfl rfl (Q_add rfl rfl rfl (by omega)) ?_; refine S_q rfl rfl rfl (Q_move rfl rfl) ?_; refine OPS_nil ?_)); rotate_left 1))
        · rw [if_pos c3_3] at htk
          refine roundF_n (k + 1, n + 1) (by simp only; omega) ⟨rfl, by simp only; omega, by simp only; omega⟩ (by repeat' (first | exact List.Sublist.refl _ | exact List.sublist_append_left _ _ | exact List.nil_sublist _ | apply List.Sublist.cons₂ | apply List.Sublist.cons)) (by repeat' (first | exact trivial | refine ⟨rfl, ?_⟩))
        · rw [if_neg (by simp [c3_3])] at htk
          refine roundF_n (k + 1, n) (by simp only; omega) ⟨rfl, by simp only; omega, by simp only; omega⟩ (by repeat' (first | exact List.Sublist.refl _ | exact List.sublist_append_left _ _ | exact List.nil_sublist _ | apply List.Sublist.cons₂ | apply List.Sublist.cons)) (by repeat' (first | exact trivial | refine ⟨rfl, ?_⟩))
      have hge : k = vs.length := by omega
      subst hge
      rw [List.take_length] at hn hhk
      have hwl := f0_3.le
      obtain ⟨z, hz, hw0, hend⟩ := hends
      have hhome : (homeR vs (i1, i2)).2 = true := by
        rcases hend with ⟨a, b⟩ | ⟨_, _, _, a, b⟩
        · exact (home_here a b).1
        · exact home_fly a b
      (focus (refine WP_seq ?_; refine R_region ?_; refine S_q rfl rfl rfl (Q_cmp rfl rfl rfl rfl) ?_; refine OPS_nil ?_; refine then_n ?_; refine WP_seq ?_; refine WP_cond rfl (fun c4_1 => ?_) (fun c4_1 => ?_) <;> (first | (simp [*] at c4_1; done) | (try simp at c4_1)); refine WP_exit ?_; refine then_e ?_; refine roundF_e ?_; refine block_e ?_; refine then_n ?_; refine WP_seq ?_; refine R_region ?_; refine S_q rfl rfl rfl (Q_move rfl rfl) ?_; refine S_q rfl rfl rfl (Q_move rfl rfl) ?_; refine S_q rfl rfl rfl (Q_move rfl rfl) ?_; refine S_q rfl rfl rfl (Q_len rfl rfl rfl rfl rfl rfl) ?_; refine S_q rfl rfl rfl (Q_sub rfl rfl rfl (by omega)) ?_; refine S_q rfl rfl rfl (Q_indexS (by assumption) (by assumption) rfl rfl rfl (elm rfl) (by omega)) ?_; refine S_load rfl rfl rfl rfl rfl ?_; refine L_el1 (by assumption) (by assumption) (ty rfl) ?_; rintro _ ⟨⟩; refine S_c rfl rfl rfl (C_call0 (refView_s (by assumption)) rfl rfl ⟨_, _, rfl, ⟨_, _, rfl, rfl, rfl⟩, rfl⟩ (cal rfl) ?_); rintro _ ⟨cv4_3, rfl, cl4_3, co4_3, ⟨xi4_3, xa4_3, po4_3, qo4_3, ps4_3, qs4_3, pc4_3, qc4_3, pn4_3, qn4_3, pm4_3, qm4_3, xw4_3, xv4_3, pf4_3, qf4_3, pr4_3, qr4_3, xe4_3, xf4_3, rfl, vo4_3, vs4_3, vc4_3, vn4_3, vm4_3, vf4_3, vr4_3⟩⟩; refine S_q rfl rfl rfl (Q_move rfl rfl) ?_; refine S_q rfl rfl rfl (Q_extract rfl rfl rfl) ?_; refine S_q rfl rfl rfl (Q_extract rfl rfl rfl) ?_; refine S_c rfl rfl rfl (C_alloc rfl (zer rfl) ?_); intro b4_4; refine S_w0 rfl rfl (W_all rfl rfl rfl (ty rfl) u0 (by first | rfl | assumption) (by first | rfl | assumption) (by first | rfl | assumption | exact ones_sub (by assumption) _ _) ?_); refine S_q rfl rfl rfl (Q_assign rfl rfl) ?_; refine OPS_nil ?_; refine then_n ?_; refine WP_seq ?_; refine WP_seq ?_; refine R_region ?_; refine S_q rfl rfl rfl (Q_assign rfl rfl) ?_; refine OPS_nil ?_; refine then_n ?_; refine WP_block ?_))
      (refine WP_loopC (α := Nat) [12, 11, 9, 7, 5, 0] (fun (i : Nat) => w.length - i) (fun (i : Nat) => [(13, .int .i64 (i : Int))]) (fun hh (i : Nat) => hh = h1 ∧ i < w.length) 0 ⟨_, _, rfl, ⟨_, _, rfl, ⟨_, _, rfl, ⟨_, _, rfl, ⟨_, _, rfl, ⟨_, _, rfl, rfl, rfl⟩, rfl⟩, rfl⟩, rfl⟩, rfl⟩, rfl⟩ (by repeat' (first | exact trivial | refine ⟨rfl, ?_⟩)) ?_ ?_)
      · exact ⟨rfl, hw0⟩
      rintro h2 i _ ⟨rfl, hi⟩
      · obtain ⟨x, ex⟩ := get_of hi
        (focus (refine WP_seq ?_; refine WP_seq ?_; refine R_region ?_; refine S_q rfl rfl rfl (Q_move rfl rfl) ?_; refine S_q rfl rfl rfl (Q_move rfl rfl) ?_; refine S_q rfl rfl rfl (Q_len rfl rfl rfl rfl rfl rfl) ?_; refine S_q rfl rfl rfl (Q_cmp rfl rfl rfl rfl) ?_; refine OPS_nil ?_; refine then_n ?_; refine WP_cond rfl (fun c6_1 => ?_) (fun c6_1 => ?_) <;> (first | (simp [*] at c6_1; done) | (try simp at c6_1)); refine WP_skip ?_; refine then_n ?_; refine WP_seq ?_; refine WP_block ?_; refine WP_seq ?_; refine WP_seq ?_; refine R_region ?_; refine S_q rfl rfl rfl (Q_assign rfl rfl) ?_; refine OPS_nil ?_; refine then_n ?_; refine WP_block ?_))
        (refine WP_loopC (α := Nat) [13, 12, 11, 9, 7, 5, 0] (fun (k : Nat) => i - k) (fun (k : Nat) => [(14, .int .i64 (k : Int))]) (fun hh (k : Nat) => hh = h2 ∧ k ≤ i) 0 ⟨_, _, rfl, ⟨_, _, rfl, ⟨_, _, rfl, ⟨_, _, rfl, ⟨_, _, rfl, ⟨_, _, rfl, ⟨_, _, rfl, rfl, rfl⟩, rfl⟩, rfl⟩, rfl⟩, rfl⟩, rfl⟩, rfl⟩ (by repeat' (first | exact trivial | refine ⟨rfl, ?_⟩)) ?_ ?_)
        · exact ⟨rfl, Nat.zero_le _⟩
        rintro h3 k _ ⟨rfl, hk⟩
        by_cases hlt2 : k < i
        · obtain ⟨y, ey⟩ := get_of (xs := w) (k := k) (by omega)
          (focus (refine WP_seq ?_; refine WP_seq ?_; refine R_region ?_; refine S_q rfl rfl rfl (Q_move rfl rfl) ?_; refine S_q rfl rfl rfl (Q_move rfl rfl) ?_; refine S_q rfl rfl rfl (Q_cmp rfl rfl rfl rfl) ?_; refine OPS_nil ?_; refine then_n ?_; refine WP_cond rfl (fun c8_1 => ?_) (fun c8_1 => ?_) <;> (first | (simp [*] at c8_1; done) | (try simp at c8_1)); refine WP_skip ?_; refine then_n ?_; refine WP_seq ?_; refine WP_block ?_; refine WP_seq ?_; refine R_draw (n := 21) mixed rfl ?_; refine A_at 0 rfl rfl ?_; refine A_q (m' := 1) rfl rfl rfl (Q_move rfl rfl) rfl (by decide +kernel) ?_; refine A_at 1 rfl rfl ?_; refine A_q (m' := 3) rfl rfl rfl (Q_move rfl rfl) rfl (by decide +kernel) ?_; refine A_at 2 rfl rfl ?_; refine A_q (m' := 7) rfl rfl rfl (Q_indexS (by assumption) (by assumption) rfl rfl rfl (elm rfl) rfl) rfl (by decide +kernel) ?_; refine A_at 3 rfl rfl ?_; refine A_load (m' := 15) rfl rfl rfl rfl rfl rfl (by decide +kernel) ?_; refine L_el1 (by assumption) (by assumption) (ty rfl) ?_; rintro _ ⟨⟩; refine A_at 4 rfl rfl ?_; refine A_q (m' := 31) rfl rfl rfl (Q_move rfl rfl) rfl (by decide +kernel) ?_; refine A_at 5 rfl rfl ?_; refine A_q (m' := 63) rfl rfl rfl (Q_move rfl rfl) rfl (by decide +kernel) ?_; refine A_at 6 rfl rfl ?_; refine A_q (m' := 127) rfl rfl rfl (Q_indexS (by assumption) (by assumption) rfl rfl rfl (elm rfl) rfl) rfl (by decide +kernel) ?_; refine A_at 7 rfl rfl ?_; refine A_load (m' := 255) rfl rfl rfl rfl rfl rfl (by decide +kernel) ?_; refine L_el1 (by assumption) (by assumption) (ty rfl) ?_; rintro _ ⟨⟩; refine A_at 8 rfl rfl ?_; refine A_q (m' := 511) rfl rfl rfl (Q_cmp rfl rfl rfl rfl) rfl (by decide +kernel) ?_; refine A_at 9 rfl rfl ?_; refine A_q (m' := 1023) rfl rfl rfl (Q_move rfl rfl) rfl (by decide +kernel) ?_; refine A_at 10 rfl rfl ?_; refine A_gsplit rfl rfl rfl rfl (fun c8_4 => ?_) (fun c8_4 => ?_) <;> (first | (simp [*] at c8_4; done) | (try simp at c8_4)); (focus (refine A_at 10 rfl rfl ?_; refine A_gq (m' := 2047) rfl rfl rfl rfl rfl rfl (Q_move rfl rfl) rfl (by decide +kernel) ?_; refine A_at 11 rfl rfl ?_; refine A_gq (m' := 4095) rfl rfl rfl rfl rfl rfl (Q_add rfl rfl rfl (by omega)) rfl (by decide +kernel) ?_; refine A_at 12 rfl rfl ?_; refine A_gq (m' := 8191) rfl rfl rfl rfl rfl rfl (Q_move rfl rfl) rfl (by decide +kernel) ?_; refine A_at 13 rfl rfl ?_; refine A_gq (m' := 16383) rfl rfl rfl rfl rfl rfl (Q_len rfl rfl rfl rfl rfl rfl) rfl (by decide +kernel) ?_; refine A_at 14 rfl rfl ?_; refine A_gq (m' := 32767) rfl rfl rfl rfl rfl rfl (Q_cmp rfl rfl rfl rfl) rfl (by decide +kernel) ?_; refine A_at 15 rfl rfl ?_; refine A_gq (m' := 65535) rfl rfl rfl rfl rfl rfl (Q_move rfl rfl) rfl (by decide +kernel) ?_; refine A_at 16 rfl rfl ?_; refine A_gsplit rfl rfl rfl rfl (fun c8_5 => ?_) (fun c8_5 => ?_) <;> (first | (simp [*] at c8_5; done) | (try simp at c8_5)); (focus (refine A_at 16 rfl rfl ?_; refine A_gn (m' := 131071) rfl rfl rfl rfl rfl rfl rfl (by decide +kernel) ?_; refine A_at 17 rfl rfl ?_; refine A_gn (m' := 262143) rfl rfl rfl rfl rfl rfl rfl (by decide +kernel) ?_; refine A_at 18 rfl rfl ?_; refine A_gn (m' := 524287) rfl rfl rfl rfl rfl rfl rfl (by decide +kernel) ?_; refine A_at 19 rfl rfl ?_; refine A_gq (m' := 1048575) rfl rfl rfl rfl rfl rfl (Q_pick_t rfl rfl rfl) rfl (by decide +kernel) ?_; refine A_at 20 rfl rfl ?_; refine A_q (m' := 2097151) rfl rfl rfl (Q_pick_t rfl rfl rfl) rfl (by decide +kernel) ?_; refine A_done (by decide +kernel) ?_; refine then_n ?_; refine cond_t rfl ?_; refine WP_seq ?_; refine R_region ?_; refine S_q rfl rfl rfl (Q_assign rfl rfl) ?_; refine OPS_nil ?_; refine then_n ?_; refine WP_ret ?_; refine block_r ?_; refine then_r ?_; refine roundF_r ?_; refine block_r ?_; refine then_r ?_; refine block_r ?_; refine then_r ?_; refine roundF_r ?_; refine block_r ?_; refine then_r ?_)); rotate_left 1; (focus (refine A_at 16 rfl rfl ?_; refine A_gload (m' := 131071) rfl rfl rfl rfl rfl rfl rfl rfl rfl (by decide +kernel) ?_; refine L_agg (Rd.own m0) (ty rfl) (by first | rfl | assumption) ?_; refine A_at 17 rfl rfl ?_; refine A_gload (m' := 262143) rfl rfl rfl rfl rfl rfl rfl rfl rfl (by decide +kernel) ?_; refine L_agg (Rd.pers (by assumption)) (ty rfl) (by first | rfl | assumption) ?_; refine A_at 18 rfl rfl ?_; refine A_gc (m' := 524287) rfl rfl rfl rfl rfl rfl rfl (by decide +kernel) (C_callv (refLocal_s ⟨by assumption, _, _, _, _, _, _, _, _, _, _, _, _, _, _, _, _, _, _, _, rfl, by assumption, by assumption, by assumption, by assumption, by assumption, by assumption, by assumption⟩) rfl rfl ⟨_, _, rfl, ⟨_, _, rfl, rfl, rfl⟩, rfl⟩ (cal rfl) ?_); refine A_at 19 rfl rfl ?_; refine A_gq (m' := 1048575) rfl rfl rfl rfl rfl rfl (Q_pick_f rfl rfl rfl) rfl (by decide +kernel) ?_; refine A_at 20 rfl rfl ?_; refine A_q (m' := 2097151) rfl rfl rfl (Q_pick_t rfl rfl rfl) rfl (by decide +kernel) ?_; refine A_done (by decide +kernel) ?_; refine then_n ?_; refine WP_cond rfl (fun c8_6 => ?_) (fun c8_6 => ?_) <;> (first | (simp [*] at c8_6; done) | (try simp at c8_6)); (focus (refine WP_seq ?_; refine R_region ?_; refine S_q rfl rfl rfl (Q_assign rfl rfl) ?_; refine OPS_nil ?_; refine then_n ?_; refine WP_ret ?_; refine block_r ?_; refine then_r ?_; refine roundF_r ?_; refine block_r ?_; refine then_r ?_; refine block_r ?_; refine then_r ?_; refine roundF_r ?_; refine block_r ?_; refine then_r ?_)); rotate_left 1; (focus (refine WP_skip ?_; refine block_n ?_; refine then_n ?_; refine R_region ?_; refine S_q rfl rfl rfl (Q_move rfl rfl) ?_; refine S_q rfl rfl rfl (Q_add rfl rfl rfl (by omega)) ?_; refine S_q rfl rfl rfl (Q_assign rfl rfl) ?_; refine OPS_nil ?_)); rotate_left 1)); rotate_left 2)); rotate_left 3; (focus (refine A_at 10 rfl rfl ?_; refine A_gn (m' := 2047) rfl rfl rfl rfl rfl rfl rfl (by decide +kernel) ?_; refine A_at 11 rfl rfl ?_; refine A_gn (m' := 4095) rfl rfl rfl rfl rfl rfl rfl (by decide +kernel) ?_; refine A_at 12 rfl rfl ?_; refine A_gn (m' := 8191) rfl rfl rfl rfl rfl rfl rfl (by decide +kernel) ?_; refine A_at 13 rfl rfl ?_; refine A_gn (m' := 16383) rfl rfl rfl rfl rfl rfl rfl (by decide +kernel) ?_; refine A_at 14 rfl rfl ?_; refine A_gn (m' := 32767) rfl rfl rfl rfl rfl rfl rfl (by decide +kernel) ?_; refine A_at 15 rfl rfl ?_; refine A_gn (m' := 65535) rfl rfl rfl rfl rfl rfl rfl (by decide +kernel) ?_; refine A_at 16 rfl rfl ?_; refine A_gu (m' := 131071) rfl rfl rfl rfl rfl rfl rfl (by decide +kernel) ?_; refine A_at 17 rfl rfl ?_; refine A_gu (m' := 262143) rfl rfl rfl rfl rfl rfl rfl (by decide +kernel) ?_; refine A_at 18 rfl rfl ?_; refine A_gu (m' := 524287) rfl rfl rfl rfl rfl rfl rfl (by decide +kernel) ?_; refine A_at 19 rfl rfl ?_; refine A_gn (m' := 1048575) rfl rfl rfl rfl rfl rfl rfl (by decide +kernel) ?_; refine A_at 20 rfl rfl ?_; refine A_q (m' := 2097151) rfl rfl rfl (Q_pick_f rfl rfl rfl) rfl (by decide +kernel) ?_; refine A_done (by decide +kernel) ?_; refine then_n ?_; refine cond_f rfl ?_; refine WP_skip ?_; refine block_n ?_; refine then_n ?_; refine R_region ?_; refine S_q rfl rfl rfl (Q_move rfl rfl) ?_; refine S_q rfl rfl rfl (Q_add rfl rfl rfl (by omega)) ?_; refine S_q rfl rfl rfl (Q_assign rfl rfl) ?_; refine OPS_nil ?_)); rotate_left 1))
          · exact absurd (honce i k x hlt2 (by omega) ex (by rw [ey, c8_4])) id
          · have := (hsteps k y ey (by omega)).2.2.1
            have hxz : x = z := by
              have : i = w.length - 1 := by omega
              rw [this, hz] at ex; exact (Option.some.inj ex).symm
            rw [← c8_4, hxz, c8_6] at this; cases this
          · refine roundF_n (k + 1) (by omega) ⟨rfl, by omega⟩ (by repeat' (first | exact List.Sublist.refl _ | exact List.sublist_append_left _ _ | exact List.nil_sublist _ | apply List.Sublist.cons₂ | apply List.Sublist.cons)) (by repeat' (first | exact trivial | refine ⟨rfl, ?_⟩))
          · refine roundF_n (k + 1) (by omega) ⟨rfl, by omega⟩ (by repeat' (first | exact List.Sublist.refl _ | exact List.sublist_append_left _ _ | exact List.nil_sublist _ | apply List.Sublist.cons₂ | apply List.Sublist.cons)) (by repeat' (first | exact trivial | refine ⟨rfl, ?_⟩))
        have hge : k = i := by omega
        subst hge
        clear hk hlt2
        by_cases hlast : k + 1 = w.length
        · have hxz : x = z := by
            have : k = w.length - 1 := by omega
            rw [this, hz] at ex; exact (Option.some.inj ex).symm
          subst hxz
          (focus (refine WP_seq ?_; refine WP_seq ?_; refine R_region ?_; refine S_q rfl rfl rfl (Q_move rfl rfl) ?_; refine S_q rfl rfl rfl (Q_move rfl rfl) ?_; refine S_q rfl rfl rfl (Q_cmp rfl rfl rfl rfl) ?_; refine OPS_nil ?_; refine then_n ?_; refine WP_cond rfl (fun c9_1 => ?_) (fun c9_1 => ?_) <;> (first | (simp [*] at c9_1; done) | (try simp at c9_1)); refine WP_exit ?_; refine then_e ?_; refine roundF_e ?_; refine block_e ?_; refine then_n ?_; refine WP_seq ?_; refine WP_seq ?_; refine R_region ?_; refine S_q rfl rfl rfl (Q_move rfl rfl) ?_; refine S_q rfl rfl rfl (Q_add rfl rfl rfl (by omega)) ?_; refine S_q rfl rfl rfl (Q_move rfl rfl) ?_; refine S_q rfl rfl rfl (Q_len rfl rfl rfl rfl rfl rfl) ?_; refine S_q rfl rfl rfl (Q_cmp rfl rfl rfl rfl) ?_; refine OPS_nil ?_; refine then_n ?_; refine WP_cond rfl (fun c9_2 => ?_) (fun c9_2 => ?_) <;> (first | (simp [*] at c9_2; done) | (try simp at c9_2)); (focus (refine WP_exit ?_; refine then_e ?_; refine block_x rfl ?_; refine then_e ?_; refine roundF_e ?_; refine block_e ?_; refine then_n ?_; refine WP_seq ?_; refine R_region ?_; refine S_q rfl rfl rfl (Q_move rfl rfl) ?_; refine S_load rfl rfl rfl rfl rfl ?_; refine L_agg (Rd.pers (by assumption)) (ty rfl) (by first | rfl | assumption) ?_; refine S_c rfl rfl rfl (C_call0 (home_s (id := (_, _)) (by assumption) (by omega)) rfl rfl ⟨_, _, rfl, ⟨_, _, rfl, rfl, rfl⟩, rfl⟩ (cal rfl) ?_); rintro _ rfl; refine S_q rfl rfl rfl (Q_move rfl rfl) ?_; refine S_q rfl rfl rfl (Q_extract rfl rfl rfl) ?_; refine S_q rfl rfl rfl (Q_extract rfl rfl rfl) ?_; refine S_q rfl rfl rfl (Q_assign rfl rfl) ?_; refine S_q rfl rfl rfl (Q_assign rfl rfl) ?_; refine OPS_nil ?_; refine then_n ?_; refine WP_seq ?_; refine WP_seq ?_; refine R_region ?_; refine S_q rfl rfl rfl (Q_move rfl rfl) ?_; refine S_q rfl rfl rfl (Q_move rfl rfl) ?_; refine S_gsplit rfl rfl rfl rfl (fun c9_4 => ?_) (fun c9_4 => ?_) <;> (first | (simp [*] at c9_4; done) | (try simp at c9_4)); (focus (refine S_gload rfl rfl rfl rfl rfl rfl rfl rfl ?_; refine L_agg (Rd.own m0) (ty rfl) (by first | rfl | assumption) ?_; refine S_gload rfl rfl rfl rfl rfl rfl rfl rfl ?_; refine L_agg (Rd.pers (by assumption)) (ty rfl) (by first | rfl | assumption) ?_; refine S_gc rfl rfl rfl rfl rfl rfl (C_callv (refLocal_s ⟨by assumption, _, _, _, _, _, _, _, _, _, _, _, _, _, _, _, _, _, _, _, rfl, by assumption, by assumption, by assumption, by assumption, by assumption, by assumption, by assumption⟩) rfl rfl ⟨_, _, rfl, ⟨_, _, rfl, rfl, rfl⟩, rfl⟩ (cal rfl) ?_); refine S_q rfl rfl rfl (Q_pick_t rfl rfl rfl) ?_; refine OPS_nil ?_; refine then_n ?_; refine WP_cond rfl (fun c9_5 => ?_) (fun c9_5 => ?_) <;> (first | (simp [*] at c9_5; done) | (try simp at c9_5)); (focus (refine WP_seq ?_; refine R_region ?_; refine S_q rfl rfl rfl (Q_move rfl rfl) ?_; refine S_q rfl rfl rfl (Q_move rfl rfl) ?_; refine S_gsplit rfl rfl rfl rfl (fun c9_6 => ?_) (fun c9_6 => ?_) <;> (first | (simp [*] at c9_6; done) | (try simp at c9_6)); refine S_gq rfl rfl rfl rfl rfl rfl (Q_move rfl rfl) ?_; refine S_gq rfl rfl rfl rfl rfl rfl (Q_cmp rfl rfl rfl rfl) ?_; refine S_gq rfl rfl rfl rfl rfl rfl (Q_move rfl rfl) ?_; refine S_gsplit rfl rfl rfl rfl (fun c9_7 => ?_) (fun c9_7 => ?_) <;> (first | (simp [*] at c9_7; done) | (try simp at c9_7)); (focus (refine S_gn rfl rfl rfl rfl rfl rfl ?_; refine S_gn rfl rfl rfl rfl rfl rfl ?_; refine S_gn rfl rfl rfl rfl rfl rfl ?_; refine S_gn rfl rfl rfl rfl rfl rfl ?_; refine S_gn rfl rfl rfl rfl rfl rfl ?_; refine S_gn rfl rfl rfl rfl rfl rfl ?_; refine S_gn rfl rfl rfl rfl rfl rfl ?_; refine S_gn rfl rfl rfl rfl rfl rfl ?_; refine S_gq rfl rfl rfl rfl rfl rfl (Q_pick_t rfl rfl rfl) ?_; refine S_q rfl rfl rfl (Q_pick_t rfl rfl rfl) ?_; refine S_q rfl rfl rfl (Q_assign rfl rfl) ?_; refine OPS_nil ?_; refine then_n ?_; refine WP_ret ?_; refine then_r ?_)); rotate_left 1; (focus (refine S_gq rfl rfl rfl rfl rfl rfl (Q_move rfl rfl) ?_; refine S_gq rfl rfl rfl rfl rfl rfl (Q_move rfl rfl) ?_; refine S_gq rfl rfl rfl rfl rfl rfl (Q_move rfl rfl) ?_; refine S_gq rfl rfl rfl rfl rfl rfl (Q_len rfl rfl rfl rfl rfl rfl) ?_; refine S_gq rfl rfl rfl rfl rfl rfl (Q_sub rfl rfl rfl (by omega)) ?_; refine S_gq rfl rfl rfl rfl rfl rfl (Q_indexS (by assumption) (by assumption) rfl rfl rfl (elm rfl) (by omega)) ?_; refine S_gload rfl rfl rfl rfl rfl rfl rfl rfl ?_; refine L_el1 (by assumption) (by assumption) (ty rfl) ?_; rintro _ ⟨⟩; refine S_gq rfl rfl rfl rfl rfl rfl (Q_cmp rfl rfl rfl rfl) ?_; refine S_gq rfl rfl rfl rfl rfl rfl (Q_pick_f rfl rfl rfl) ?_; refine S_q rfl rfl rfl (Q_pick_t rfl rfl rfl) ?_; refine S_q rfl rfl rfl (Q_assign rfl rfl) ?_; refine OPS_nil ?_; refine then_n ?_; refine WP_ret ?_; refine then_r ?_)); rotate_left 1)); rotate_left 2; (focus (refine WP_skip ?_; refine then_n ?_; refine WP_seq ?_; refine R_region ?_; refine S_q rfl rfl rfl (Q_move rfl rfl) ?_; refine S_q rfl rfl rfl (Q_move rfl rfl) ?_; refine S_gsplit rfl rfl rfl rfl (fun c9_9 => ?_) (fun c9_9 => ?_) <;> (first | (simp [*] at c9_9; done) | (try simp at c9_9)); refine S_gq rfl rfl rfl rfl rfl rfl (Q_move rfl rfl) ?_; refine S_gq rfl rfl rfl rfl rfl rfl (Q_len rfl rfl rfl rfl rfl rfl) ?_; refine S_gq rfl rfl rfl rfl rfl rfl (Q_cmp rfl rfl rfl rfl) ?_; refine S_q rfl rfl rfl (Q_pick_t rfl rfl rfl) ?_; refine S_q rfl rfl rfl (Q_assign rfl rfl) ?_; refine OPS_nil ?_; refine then_n ?_; refine WP_ret ?_)); rotate_left 1)); rotate_left 3; (focus (refine S_gn rfl rfl rfl rfl rfl rfl ?_; refine S_gn rfl rfl rfl rfl rfl rfl ?_; refine S_gn rfl rfl rfl rfl rfl rfl ?_; refine S_q rfl rfl rfl (Q_pick_f rfl rfl rfl) ?_; refine OPS_nil ?_; refine then_n ?_; refine cond_f rfl ?_; refine WP_skip ?_; refine then_n ?_; refine WP_seq ?_; refine R_region ?_; refine S_q rfl rfl rfl (Q_move rfl rfl) ?_; refine S_q rfl rfl rfl (Q_move rfl rfl) ?_; refine S_gsplit rfl rfl rfl rfl (fun c9_10 => ?_) (fun c9_10 => ?_) <;> (first | (simp [*] at c9_10; done) | (try simp at c9_10)); refine S_gq rfl rfl rfl rfl rfl rfl (Q_move rfl rfl) ?_; refine S_gq rfl rfl rfl rfl rfl rfl (Q_len rfl rfl rfl rfl rfl rfl) ?_; refine S_gq rfl rfl rfl rfl rfl rfl (Q_cmp rfl rfl rfl rfl) ?_; refine S_q rfl rfl rfl (Q_pick_t rfl rfl rfl) ?_; refine S_q rfl rfl rfl (Q_assign rfl rfl) ?_; refine OPS_nil ?_; refine then_n ?_; refine WP_ret ?_)); rotate_left 1)); rotate_left 4; (focus (exfalso; omega))))
          · refine pret (.inl rfl) rfl ⟨_, _, rfl, rfl, rfl⟩ ?_
            rfl
          · have := (home_here c9_4 c9_5).2.resolve_left (by omega)
            refine pret (.inl rfl) rfl ⟨_, _, rfl, rfl, rfl⟩ ?_
            simp only [resOf]; rw [this]; simp
          · have := (hend.resolve_left (by rw [c9_5]; simp)).1
            refine pret (.inl rfl) rfl ⟨_, _, rfl, rfl, rfl⟩ ?_
            simp only [resOf]; exact congrArg Value.bool (decide_eq_true (by omega))
          · have := (hend.resolve_left (by rw [c9_4]; simp)).1
            refine pret (.inl rfl) rfl ⟨_, _, rfl, rfl, rfl⟩ ?_
            simp only [resOf]; exact congrArg Value.bool (decide_eq_true (by omega))
        obtain ⟨hnx, hvx, hlx, y, ey, s0, hs1, hs2, hs3, hs4⟩ := hsteps k x ex (by omega)
        (focus (refine WP_seq ?_; refine WP_seq ?_; refine R_region ?_; refine S_q rfl rfl rfl (Q_move rfl rfl) ?_; refine S_q rfl rfl rfl (Q_move rfl rfl) ?_; refine S_q rfl rfl rfl (Q_cmp rfl rfl rfl rfl) ?_; refine OPS_nil ?_; refine then_n ?_; refine WP_cond rfl (fun c10_1 => ?_) (fun c10_1 => ?_) <;> (first | (simp [*] at c10_1; done) | (try simp at c10_1)); refine WP_exit ?_; refine then_e ?_; refine roundF_e ?_; refine block_e ?_; refine then_n ?_; refine WP_seq ?_; refine WP_seq ?_; refine R_region ?_; refine S_q rfl rfl rfl (Q_move rfl rfl) ?_; refine S_q rfl rfl rfl (Q_add rfl rfl rfl (by omega)) ?_; refine S_q rfl rfl rfl (Q_move rfl rfl) ?_; refine S_q rfl rfl rfl (Q_len rfl rfl rfl rfl rfl rfl) ?_; refine S_q rfl rfl rfl (Q_cmp rfl rfl rfl rfl) ?_; refine OPS_nil ?_; refine then_n ?_; refine WP_cond rfl (fun c10_2 => ?_) (fun c10_2 => ?_) <;> (first | (simp [*] at c10_2; done) | (try simp at c10_2)); (focus (exfalso; omega)); (focus (refine WP_skip ?_; refine then_n ?_; refine WP_seq ?_; refine R_region ?_; refine S_q rfl rfl rfl (Q_move rfl rfl) ?_; refine S_q rfl rfl rfl (Q_move rfl rfl) ?_; refine S_q rfl rfl rfl (Q_move rfl rfl) ?_; refine S_q rfl rfl rfl (Q_indexS (by assumption) (by assumption) rfl rfl rfl (elm rfl) rfl) ?_; refine S_load rfl rfl rfl rfl rfl ?_; refine L_el1 (by assumption) (by assumption) (ty rfl) ?_; rintro _ ⟨⟩; refine S_c rfl rfl rfl (C_call0 (refView_s (by assumption)) rfl rfl ⟨_, _, rfl, ⟨_, _, rfl, rfl, rfl⟩, rfl⟩ (cal rfl) ?_); rintro _ ⟨cv10_4, rfl, cl10_4, co10_4, ⟨xi10_4, xa10_4, po10_4, qo10_4, ps10_4, qs10_4, pc10_4, qc10_4, pn10_4, qn10_4, pm10_4, qm10_4, xw10_4, xv10_4, pf10_4, qf10_4, pr10_4, qr10_4, xe10_4, xf10_4, rfl, vo10_4, vs10_4, vc10_4, vn10_4, vm10_4, vf10_4, vr10_4⟩⟩; refine S_q rfl rfl rfl (Q_move rfl rfl) ?_; refine S_q rfl rfl rfl (Q_extract rfl rfl rfl) ?_; refine S_q rfl rfl rfl (Q_extract rfl rfl rfl) ?_; refine S_c rfl rfl rfl (C_alloc rfl (zer rfl) ?_); intro b10_5; refine S_w0 rfl rfl (W_all rfl rfl rfl (ty rfl) u0 (by first | rfl | assumption) (by first | rfl | assumption) (by first | rfl | assumption | exact ones_sub (by assumption) _ _) ?_); refine S_q rfl rfl rfl (Q_assign rfl rfl) ?_; refine OPS_nil ?_; refine then_n ?_; refine WP_seq ?_; refine R_region ?_; refine S_q rfl rfl rfl (Q_assign rfl rfl) ?_; refine OPS_nil ?_; refine then_n ?_; refine WP_seq ?_; refine WP_seq ?_; refine R_region ?_; refine S_q rfl rfl rfl (Q_fieldAddr rfl rfl (fld rfl rfl)) ?_; refine S_load rfl rfl rfl rfl rfl ?_; refine L_fld (Rd.own m0) (ty rfl) rfl ?_; refine S_q rfl rfl rfl (Q_len rfl rfl rfl rfl rfl rfl) ?_; refine S_q rfl rfl rfl (Q_move rfl rfl) ?_; refine OPS_nil ?_; refine then_n ?_; refine WP_block ?_)); rotate_left 1))
        have hsl := vs10_4.le
        (refine WP_loopC (α := Nat × Bool) [130, 129, 16, 15, 13, 12, 11, 9, 7, 5, 0] (fun (s : Nat × Bool) => (vwAt vs x).stubs.length - s.1) (fun (s : Nat × Bool) => [(131, .int .i64 (s.1 : Int)), (17, .bool s.2)]) (fun hh (s : Nat × Bool) => hh = h3 ∧ s.1 ≤ (vwAt vs x).stubs.length ∧ s.2 = ((vwAt vs x).stubs.take s.1).any (leads (i1, i2) y)) (0, false) ⟨_, _, rfl, ⟨_, _, rfl, ⟨_, _, rfl, ⟨_, _, rfl, ⟨_, _, rfl, ⟨_, _, rfl, ⟨_, _, rfl, ⟨_, _, rfl, ⟨_, _, rfl, ⟨_, _, rfl, ⟨_, _, rfl, rfl, rfl⟩, rfl⟩, rfl⟩, rfl⟩, rfl⟩, rfl⟩, rfl⟩, rfl⟩, rfl⟩, rfl⟩, rfl⟩ (by repeat' (first | exact trivial | refine ⟨rfl, ?_⟩)) ?_ ?_)
        · exact ⟨rfl, Nat.zero_le _, rfl⟩
        rintro h4 ⟨j, fd⟩ _ ⟨rfl, hj, hfd⟩
        simp only at hj hfd
        dsimp only
        by_cases hlt3 : j < (vwAt vs x).stubs.length
        · obtain ⟨e, ee⟩ := get_of hlt3
          have htk := any_take (leads (i1, i2) y) ee
          have hld := leads_def (i1, i2) y e
          cases fd with
          | true =>
            (focus (refine WP_seq ?_; refine R_region ?_; refine S_q rfl rfl rfl (Q_cmp rfl rfl rfl rfl) ?_; refine OPS_nil ?_; refine then_n ?_; refine WP_seq ?_; refine WP_cond rfl (fun c12_1 => ?_) (fun c12_1 => ?_) <;> (first | (simp [*] at c12_1; done) | (try simp at c12_1)); (focus (refine WP_skip ?_; refine then_n ?_; refine WP_seq ?_; refine WP_block ?_; refine WP_seq ?_; refine R_region ?_; refine S_q rfl rfl rfl (Q_indexS (by assumption) (by assumption) rfl rfl rfl (elm rfl) rfl) ?_; refine S_load rfl rfl rfl rfl rfl ?_; refine L_elA (by assumption) (by assumption) (ty rfl) ?_; rintro _ _ _ ⟨xa12_2, xb12_2, xc12_2, xd12_2, xe12_2, xf12_2, rfl⟩; refine S_c rfl rfl rfl (C_alloc rfl (zer rfl) ?_); intro b12_3; refine S_w0 rfl rfl (W_all rfl rfl rfl (ty rfl) u0 (by first | rfl | assumption) (by first | rfl | assumption) (by first | rfl | assumption | exact ones_sub (by assumption) _ _) ?_); refine OPS_nil ?_; refine then_n ?_; refine R_draw (n := 23) mixed rfl ?_; refine A_at 0 rfl rfl ?_; refine A_q (m' := 1) rfl rfl rfl (Q_move rfl rfl) rfl (by decide +kernel) ?_; refine A_at 1 rfl rfl ?_; refine A_q (m' := 3) rfl rfl rfl (Q_move rfl rfl) rfl (by decide +kernel) ?_; refine A_at 2 rfl rfl ?_; refine A_gn (m' := 7) rfl rfl rfl rfl rfl rfl rfl (by decide +kernel) ?_; refine A_at 3 rfl rfl ?_; refine A_gn (m' := 15) rfl rfl rfl rfl rfl rfl rfl (by decide +kernel) ?_; refine A_at 4 rfl rfl ?_; refine A_gn (m' := 31) rfl rfl rfl rfl rfl rfl rfl (by decide +kernel) ?_; refine A_at 5 rfl rfl ?_; refine A_gn (m' := 63) rfl rfl rfl rfl rfl rfl rfl (by decide +kernel) ?_; refine A_at 6 rfl rfl ?_; refine A_gn (m' := 127) rfl rfl rfl rfl rfl rfl rfl (by decide +kernel) ?_; refine A_at 7 rfl rfl ?_; refine A_gu (m' := 255) rfl rfl rfl rfl rfl rfl rfl (by decide +kernel) ?_; refine A_at 8 rfl rfl ?_; refine A_gu (m' := 511) rfl rfl rfl rfl rfl rfl rfl (by decide +kernel) ?_; refine A_at 9 rfl rfl ?_; refine A_gu (m' := 1023) rfl rfl rfl rfl rfl rfl rfl (by decide +kernel) ?_; refine A_at 10 rfl rfl ?_; refine A_gu (m' := 2047) rfl rfl rfl rfl rfl rfl rfl (by decide +kernel) ?_; refine A_at 11 rfl rfl ?_; refine A_gu (m' := 4095) rfl rfl rfl rfl rfl rfl rfl (by decide +kernel) ?_; refine A_at 12 rfl rfl ?_; refine A_gu (m' := 8191) rfl rfl rfl rfl rfl rfl rfl (by decide +kernel) ?_; refine A_at 13 rfl rfl ?_; refine A_gu (m' := 16383) rfl rfl rfl rfl rfl rfl rfl (by decide +kernel) ?_; refine A_at 14 rfl rfl ?_; refine A_gu (m' := 32767) rfl rfl rfl rfl rfl rfl rfl (by decide +kernel) ?_; refine A_at 15 rfl rfl ?_; refine A_gn (m' := 65535) rfl rfl rfl rfl rfl rfl rfl (by decide +kernel) ?_; refine A_at 16 rfl rfl ?_; refine A_gn (m' := 131071) rfl rfl rfl rfl rfl rfl rfl (by decide +kernel) ?_; refine A_at 17 rfl rfl ?_; refine A_gu (m' := 262143) rfl rfl rfl rfl rfl rfl rfl (by decide +kernel) ?_; refine A_at 18 rfl rfl ?_; refine A_gu (m' := 524287) rfl rfl rfl rfl rfl rfl rfl (by decide +kernel) ?_; refine A_at 19 rfl rfl ?_; refine A_gu (m' := 1048575) rfl rfl rfl rfl rfl rfl rfl (by decide +kernel) ?_; refine A_at 20 rfl rfl ?_; refine A_gn (m' := 2097151) rfl rfl rfl rfl rfl rfl rfl (by decide +kernel) ?_; refine A_at 21 rfl rfl ?_; refine A_q (m' := 4194303) rfl rfl rfl (Q_pick_t rfl rfl rfl) rfl (by decide +kernel) ?_; refine A_at 22 rfl rfl ?_; refine A_q (m' := 8388607) rfl rfl rfl (Q_assign rfl rfl) rfl (by decide +kernel) ?_; refine A_done (by decide +kernel) ?_; refine block_n ?_; refine then_n ?_; refine R_region ?_; refine S_q rfl rfl rfl (Q_add rfl rfl rfl (by omega)) ?_; refine S_q rfl rfl rfl (Q_move rfl rfl) ?_; refine OPS_nil ?_)); rotate_left 1; (focus (exfalso; omega))))
            refine roundF_n (j + 1, true) (by simp only; omega) ⟨rfl, by simp only; omega, ?_⟩ (by repeat' (first | exact List.Sublist.refl _ | exact List.sublist_append_left _ _ | exact List.nil_sublist _ | apply List.Sublist.cons₂ | apply List.Sublist.cons)) (by repeat' (first | exact trivial | refine ⟨rfl, ?_⟩))
            simp only; rw [htk, ← hfd]; rfl
          | false =>
            (focus (refine WP_seq ?_; refine R_region ?_; refine S_q rfl rfl rfl (Q_cmp rfl rfl rfl rfl) ?_; refine OPS_nil ?_; refine then_n ?_; refine WP_seq ?_; refine WP_cond rfl (fun c13_1 => ?_) (fun c13_1 => ?_) <;> (first | (simp [*] at c13_1; done) | (try simp at c13_1)); (focus (refine WP_skip ?_; refine then_n ?_; refine WP_seq ?_; refine WP_block ?_; refine WP_seq ?_; refine R_region ?_; refine S_q rfl rfl rfl (Q_indexS (by assumption) (by assumption) rfl rfl rfl (elm rfl) rfl) ?_; refine S_load rfl rfl rfl rfl rfl ?_; refine L_elA (by assumption) (by assumption) (ty rfl) ?_; rintro _ _ _ ⟨xa13_2, xb13_2, xc13_2, xd13_2, xe13_2, xf13_2, rfl⟩; refine S_c rfl rfl rfl (C_alloc rfl (zer rfl) ?_); intro b13_3; refine S_w0 rfl rfl (W_all rfl rfl rfl (ty rfl) u0 (by first | rfl | assumption) (by first | rfl | assumption) (by first | rfl | assumption | exact ones_sub (by assumption) _ _) ?_); refine OPS_nil ?_; refine then_n ?_; refine R_draw (n := 23) mixed rfl ?_; refine A_at 0 rfl rfl ?_; refine A_q (m' := 1) rfl rfl rfl (Q_move rfl rfl) rfl (by decide +kernel) ?_; refine A_at 1 rfl rfl ?_; refine A_q (m' := 3) rfl rfl rfl (Q_move rfl rfl) rfl (by decide +kernel) ?_; refine A_at 2 rfl rfl ?_; refine A_gq (m' := 7) rfl rfl rfl rfl rfl rfl (Q_fieldAddr rfl rfl (fld rfl rfl)) rfl (by decide +kernel) ?_; refine A_at 3 rfl rfl ?_; refine A_gload (m' := 15) rfl rfl rfl rfl rfl rfl rfl rfl rfl (by decide +kernel) ?_; refine L_sub (Rd.own m0) (ty rfl) rfl ?_; refine A_at 4 rfl rfl ?_; refine A_gload (m' := 31) rfl rfl rfl rfl rfl rfl rfl rfl rfl (by decide +kernel) ?_; refine L_agg (Rd.pers (by assumption)) (ty rfl) (by first | rfl | assumption) ?_; refine A_at 5 rfl rfl ?_; refine A_gq (m' := 63) rfl rfl rfl rfl rfl rfl (Q_eqI eqID rfl rfl rfl rfl rfl) rfl (by decide +kernel) ?_; refine A_at 6 rfl rfl ?_; refine A_gq (m' := 127) rfl rfl rfl rfl rfl rfl (Q_move rfl rfl) rfl (by decide +kernel) ?_; refine A_at 7 rfl rfl ?_; refine A_gsplit rfl rfl rfl rfl (fun c13_4 => ?_) (fun c13_4 => ?_) <;> (first | (simp [*] at c13_4; done) | (try simp at c13_4)); (focus (refine A_at 7 rfl rfl ?_; refine A_gq (m' := 255) rfl rfl rfl rfl rfl rfl (Q_fieldAddr rfl rfl (fld rfl rfl)) rfl (by decide +kernel) ?_; refine A_at 8 rfl rfl ?_; refine A_gload (m' := 511) rfl rfl rfl rfl rfl rfl rfl rfl rfl (by decide +kernel) ?_; refine L_fld (Rd.own m0) (ty rfl) rfl ?_; refine A_at 9 rfl rfl ?_; refine A_gq (m' := 1023) rfl rfl rfl rfl rfl rfl (Q_move rfl rfl) rfl (by decide +kernel) ?_; refine A_at 10 rfl rfl ?_; refine A_gq (m' := 2047) rfl rfl rfl rfl rfl rfl (Q_move rfl rfl) rfl (by decide +kernel) ?_; refine A_at 11 rfl rfl ?_; refine A_gq (m' := 4095) rfl rfl rfl rfl rfl rfl (Q_add rfl rfl rfl (by omega)) rfl (by decide +kernel) ?_; refine A_at 12 rfl rfl ?_; refine A_gq (m' := 8191) rfl rfl rfl rfl rfl rfl (Q_indexS (by assumption) (by assumption) rfl rfl rfl (elm rfl) rfl) rfl (by decide +kernel) ?_; refine A_at 13 rfl rfl ?_; refine A_gload (m' := 16383) rfl rfl rfl rfl rfl rfl rfl rfl rfl (by decide +kernel) ?_; refine L_el1 (by assumption) (by assumption) (ty rfl) ?_; rintro _ ⟨⟩; refine A_at 14 rfl rfl ?_; refine A_gq (m' := 32767) rfl rfl rfl rfl rfl rfl (Q_cmp rfl rfl rfl rfl) rfl (by decide +kernel) ?_; refine A_at 15 rfl rfl ?_; refine A_gq (m' := 65535) rfl rfl rfl rfl rfl rfl (Q_pick_t rfl rfl rfl) rfl (by decide +kernel) ?_; refine A_at 16 rfl rfl ?_; refine A_gq (m' := 131071) rfl rfl rfl rfl rfl rfl (Q_move rfl rfl) rfl (by decide +kernel) ?_; refine A_at 17 rfl rfl ?_; refine A_gsplit rfl rfl rfl rfl (fun c13_6 => ?_) (fun c13_6 => ?_) <;> (first | (simp [*] at c13_6; done) | (try simp at c13_6)); (focus (refine A_at 17 rfl rfl ?_; refine A_gq (m' := 262143) rfl rfl rfl rfl rfl rfl (Q_fieldAddr rfl rfl (fld rfl rfl)) rfl (by decide +kernel) ?_; refine A_at 18 rfl rfl ?_; refine A_gload (m' := 524287) rfl rfl rfl rfl rfl rfl rfl rfl rfl (by decide +kernel) ?_; refine L_fld (Rd.own m0) (ty rfl) rfl ?_; refine A_at 19 rfl rfl ?_; refine A_gq (m' := 1048575) rfl rfl rfl rfl rfl rfl (Q_not rfl rfl) rfl (by decide +kernel) ?_; refine A_at 20 rfl rfl ?_; refine A_gq (m' := 2097151) rfl rfl rfl rfl rfl rfl (Q_pick_t rfl rfl rfl) rfl (by decide +kernel) ?_; refine A_at 21 rfl rfl ?_; refine A_q (m' := 4194303) rfl rfl rfl (Q_pick_f rfl rfl rfl) rfl (by decide +kernel) ?_; refine A_at 22 rfl rfl ?_; refine A_q (m' := 8388607) rfl rfl rfl (Q_assign rfl rfl) rfl (by decide +kernel) ?_; refine A_done (by decide +kernel) ?_; refine block_n ?_; refine then_n ?_; refine R_region ?_; refine S_q rfl rfl rfl (Q_add rfl rfl rfl (by omega)) ?_; refine S_q rfl rfl rfl (Q_move rfl rfl) ?_; refine OPS_nil ?_)); rotate_left 1; (focus (refine A_at 17 rfl rfl ?_; refine A_gn (m' := 262143) rfl rfl rfl rfl rfl rfl rfl (by decide +kernel) ?_; refine A_at 18 rfl rfl ?_; refine A_gn (m' := 524287) rfl rfl rfl rfl rfl rfl rfl (by decide +kernel) ?_; refine A_at 19 rfl rfl ?_; refine A_gn (m' := 1048575) rfl rfl rfl rfl rfl rfl rfl (by decide +kernel) ?_; refine A_at 20 rfl rfl ?_; refine A_gq (m' := 2097151) rfl rfl rfl rfl rfl rfl (Q_pick_f rfl rfl rfl) rfl (by decide +kernel) ?_; refine A_at 21 rfl rfl ?_; refine A_q (m' := 4194303) rfl rfl rfl (Q_pick_f rfl rfl rfl) rfl (by decide +kernel) ?_; refine A_at 22 rfl rfl ?_; refine A_q (m' := 8388607) rfl rfl rfl (Q_assign rfl rfl) rfl (by decide +kernel) ?_; refine A_done (by decide +kernel) ?_; refine block_n ?_; refine then_n ?_; refine R_region ?_; refine S_q rfl rfl rfl (Q_add rfl rfl rfl (by omega)) ?_; refine S_q rfl rfl rfl (Q_move rfl rfl) ?_; refine OPS_nil ?_)); rotate_left 1)); rotate_left 2; (focus (refine A_at 7 rfl rfl ?_; refine A_gn (m' := 255) rfl rfl rfl rfl rfl rfl rfl (by decide +kernel) ?_; refine A_at 8 rfl rfl ?_; refine A_gn (m' := 511) rfl rfl rfl rfl rfl rfl rfl (by decide +kernel) ?_; refine A_at 9 rfl rfl ?_; refine A_gn (m' := 1023) rfl rfl rfl rfl rfl rfl rfl (by decide +kernel) ?_; refine A_at 10 rfl rfl ?_; refine A_gn (m' := 2047) rfl rfl rfl rfl rfl rfl rfl (by decide +kernel) ?_; refine A_at 11 rfl rfl ?_; refine A_gn (m' := 4095) rfl rfl rfl rfl rfl rfl rfl (by decide +kernel) ?_; refine A_at 12 rfl rfl ?_; refine A_gn (m' := 8191) rfl rfl rfl rfl rfl rfl rfl (by decide +kernel) ?_; refine A_at 13 rfl rfl ?_; refine A_gn (m' := 16383) rfl rfl rfl rfl rfl rfl rfl (by decide +kernel) ?_; refine A_at 14 rfl rfl ?_; refine A_gn (m' := 32767) rfl rfl rfl rfl rfl rfl rfl (by decide +kernel) ?_; refine A_at 15 rfl rfl ?_; refine A_gq (m' := 65535) rfl rfl rfl rfl rfl rfl (Q_pick_f rfl rfl rfl) rfl (by decide +kernel) ?_; refine A_at 16 rfl rfl ?_; refine A_gq (m' := 131071) rfl rfl rfl rfl rfl rfl (Q_move rfl rfl) rfl (by decide +kernel) ?_; refine A_at 17 rfl rfl ?_; refine A_gn (m' := 262143) rfl rfl rfl rfl rfl rfl rfl (by decide +kernel) ?_; refine A_at 18 rfl rfl ?_; refine A_gn (m' := 524287) rfl rfl rfl rfl rfl rfl rfl (by decide +kernel) ?_; refine A_at 19 rfl rfl ?_; refine A_gn (m' := 1048575) rfl rfl rfl rfl rfl rfl rfl (by decide +kernel) ?_; refine A_at 20 rfl rfl ?_; refine A_gq (m' := 2097151) rfl rfl rfl rfl rfl rfl (Q_pick_f rfl rfl rfl) rfl (by decide +kernel) ?_; refine A_at 21 rfl rfl ?_; refine A_q (m' := 4194303) rfl rfl rfl (Q_pick_f rfl rfl rfl) rfl (by decide +kernel) ?_; refine A_at 22 rfl rfl ?_; refine A_q (m' := 8388607) rfl rfl rfl (Q_assign rfl rfl) rfl (by decide +kernel) ?_; refine A_done (by decide +kernel) ?_; refine block_n ?_; refine then_n ?_; refine R_region ?_; refine S_q rfl rfl rfl (Q_add rfl rfl rfl (by omega)) ?_; refine S_q rfl rfl rfl (Q_move rfl rfl) ?_; refine OPS_nil ?_)); rotate_left 1)); rotate_left 3; (focus (exfalso; omega))))
            · refine roundF_n (j + 1, !e.dead) (by simp only; omega) ⟨rfl, by simp only; omega, ?_⟩ (by repeat' (first | exact List.Sublist.refl _ | exact List.sublist_append_left _ _ | exact List.nil_sublist _ | apply List.Sublist.cons₂ | apply List.Sublist.cons)) (by repeat' (first | exact trivial | refine ⟨rfl, ?_⟩))
              simp only; rw [htk, ← hfd, hld, decide_eq_true (p := e.id = (i1, i2)) (Prod.ext c13_4.1 c13_4.2), decide_eq_true c13_6]; rfl
            · refine roundF_n (j + 1, false) (by simp only; omega) ⟨rfl, by simp only; omega, ?_⟩ (by repeat' (first | exact List.Sublist.refl _ | exact List.sublist_append_left _ _ | exact List.nil_sublist _ | apply List.Sublist.cons₂ | apply List.Sublist.cons)) (by repeat' (first | exact trivial | refine ⟨rfl, ?_⟩))
              simp only; rw [htk, ← hfd, hld, decide_eq_false c13_6]; simp
            · refine roundF_n (j + 1, false) (by simp only; omega) ⟨rfl, by simp only; omega, ?_⟩ (by repeat' (first | exact List.Sublist.refl _ | exact List.sublist_append_left _ _ | exact List.nil_sublist _ | apply List.Sublist.cons₂ | apply List.Sublist.cons)) (by repeat' (first | exact trivial | refine ⟨rfl, ?_⟩))
              simp only; rw [htk, ← hfd, hld, decide_eq_false (p := e.id = (i1, i2)) fun h => c13_4 (congrArg Prod.fst h) (congrArg Prod.snd h)]; rfl
        have hge : j = (vwAt vs x).stubs.length := by omega
        subst hge
        rw [List.take_length] at hfd
        have hfd' : fd = true := by
          rw [hfd, List.any_eq_true]
          exact ⟨s0, hs1, by rw [leads_def, hs2, hs3, hs4]; simp⟩
        subst hfd'
        (focus (refine WP_seq ?_; refine R_region ?_; refine S_q rfl rfl rfl (Q_cmp rfl rfl rfl rfl) ?_; refine OPS_nil ?_; refine then_n ?_; refine WP_seq ?_; refine WP_cond rfl (fun c14_1 => ?_) (fun c14_1 => ?_) <;> (first | (simp [*] at c14_1; done) | (try simp at c14_1)); refine WP_exit ?_; refine then_e ?_; refine roundF_e ?_; refine block_e ?_; refine then_n ?_; refine WP_seq ?_; refine R_region ?_; refine S_q rfl rfl rfl (Q_move rfl rfl) ?_; refine S_q rfl rfl rfl (Q_not rfl rfl) ?_; refine S_q rfl rfl rfl (Q_move rfl rfl) ?_; refine S_gsplit rfl rfl rfl rfl (fun c14_2 => ?_) (fun c14_2 => ?_) <;> (first | (simp [*] at c14_2; done) | (try simp at c14_2)); refine S_gq rfl rfl rfl rfl rfl rfl (Q_move rfl rfl) ?_; refine S_gq rfl rfl rfl rfl rfl rfl (Q_not rfl rfl) ?_; refine S_q rfl rfl rfl (Q_pick_f rfl rfl rfl) ?_; refine S_q rfl rfl rfl (Q_move rfl rfl) ?_; refine S_gsplit rfl rfl rfl rfl (fun c14_3 => ?_) (fun c14_3 => ?_) <;> (first | (simp [*] at c14_3; done) | (try simp at c14_3)); refine S_gload rfl rfl rfl rfl rfl rfl rfl rfl ?_; refine L_agg (Rd.own m0) (ty rfl) (by first | rfl | assumption) ?_; refine S_gload rfl rfl rfl rfl rfl rfl rfl rfl ?_; refine L_agg (Rd.pers (by assumption)) (ty rfl) (by first | rfl | assumption) ?_; refine S_gc rfl rfl rfl rfl rfl rfl (C_callv (refLocal_s ⟨by assumption, _, _, _, _, _, _, _, _, _, _, _, _, _, _, _, _, _, _, _, rfl, by assumption, by assumption, by assumption, by assumption, by assumption, by assumption, by assumption⟩) rfl rfl ⟨_, _, rfl, ⟨_, _, rfl, rfl, rfl⟩, rfl⟩ (cal rfl) ?_); refine S_q rfl rfl rfl (Q_pick_f rfl rfl rfl) ?_; refine OPS_nil ?_; refine then_n ?_; refine WP_cond rfl (fun c14_4 => ?_) (fun c14_4 => ?_) <;> (first | (simp [*] at c14_4; done) | (try simp at c14_4)); (focus (refine WP_seq ?_; refine R_region ?_; refine S_q rfl rfl rfl (Q_assign rfl rfl) ?_; refine OPS_nil ?_; refine then_n ?_; refine WP_ret ?_; refine block_r ?_; refine then_r ?_; refine roundF_r ?_; refine block_r ?_; refine then_r ?_)); rotate_left 1; (focus (refine WP_skip ?_; refine block_n ?_; refine then_n ?_; refine R_region ?_; refine S_q rfl rfl rfl (Q_move rfl rfl) ?_; refine S_q rfl rfl rfl (Q_add rfl rfl rfl (by omega)) ?_; refine S_q rfl rfl rfl (Q_assign rfl rfl) ?_; refine OPS_nil ?_)); rotate_left 1))
        · rw [hlx] at c14_4; cases c14_4
        · refine roundF_n (k + 1) (by omega) ⟨rfl, by omega⟩ (by repeat' (first | exact List.Sublist.refl _ | exact List.sublist_append_left _ _ | exact List.nil_sublist _ | apply List.Sublist.cons₂ | apply List.Sublist.cons)) (by repeat' (first | exact trivial | refine ⟨rfl, ?_⟩))
    · obtain ⟨e1, e2⟩ := follow_err h0
      (focus (refine WP_seq ?_; refine R_region ?_; refine S_c rfl rfl rfl (C_box rfl rfl ?_); intro b15_1; refine S_q rfl rfl rfl (Q_assign rfl rfl) ?_; refine OPS_nil ?_; refine then_n ?_; refine WP_seq ?_; refine WP_seq ?_; refine R_region ?_; refine S_c rfl rfl rfl (C_callv (awake_s) rfl rfl rfl (cal rfl) ?_); refine S_q rfl rfl rfl (Q_not rfl rfl) ?_; refine OPS_nil ?_; refine then_n ?_; refine cond_f rfl ?_; refine WP_skip ?_; refine then_n ?_; refine WP_seq ?_; refine WP_seq ?_; refine R_region ?_; refine S_q rfl rfl rfl (Q_move rfl rfl) ?_; refine S_c rfl rfl rfl (C_callv (few_s (by assumption)) rfl rfl ⟨_, _, rfl, rfl, rfl⟩ (cal rfl) ?_); refine S_q rfl rfl rfl (Q_not rfl rfl) ?_; refine OPS_nil ?_; refine then_n ?_; refine WP_cond rfl (fun c15_2 => ?_) (fun c15_2 => ?_) <;> (first | (simp [*] at c15_2; done) | (try simp at c15_2)); refine WP_skip ?_; refine then_n ?_; refine WP_seq ?_; refine R_region ?_; refine S_q rfl rfl rfl (Q_move rfl rfl) ?_; refine S_q rfl rfl rfl (Q_move rfl rfl) ?_; refine S_load rfl rfl rfl rfl rfl ?_; refine L_agg (Rd.own m0) (ty rfl) (by first | rfl | assumption) ?_; refine S_c rfl rfl rfl (C_call (follow_s (by assumption) (by omega)) rfl rfl ⟨_, _, rfl, ⟨_, _, rfl, ⟨_, _, rfl, rfl, rfl⟩, rfl⟩, rfl⟩ (cal rfl) ?_); rintro h15_3 _ l15_3 ⟨p15_3, q15_3, rfl, f15_3⟩; replace hB := hB.up l15_3; replace hs := hs.up l15_3; refine S_q rfl rfl rfl (Q_move rfl rfl) ?_; refine S_q rfl rfl rfl (Q_extract rfl rfl rfl) ?_; refine S_q rfl rfl rfl (Q_extract rfl rfl rfl) ?_; refine S_q rfl rfl rfl (Q_assign rfl rfl) ?_; refine S_q rfl rfl rfl (Q_assign rfl rfl) ?_; refine OPS_nil ?_; refine then_n ?_; refine WP_seq ?_; refine WP_seq ?_; refine R_region ?_; refine S_q rfl rfl rfl (Q_move rfl rfl) ?_; refine S_q rfl rfl rfl (Q_cmp rfl rfl rfl rfl) ?_; refine OPS_nil ?_; refine then_n ?_; refine WP_cond rfl (fun c15_4 => ?_) (fun c15_4 => ?_) <;> (first | (simp [*] at c15_4; done) | (try simp at c15_4)); refine WP_seq ?_; refine R_region ?_; refine S_q rfl rfl rfl (Q_move rfl rfl) ?_; refine S_q rfl rfl rfl (Q_len rfl rfl rfl rfl rfl rfl) ?_; refine S_q rfl rfl rfl (Q_cmp rfl rfl rfl rfl) ?_; refine S_q rfl rfl rfl (Q_move rfl rfl) ?_; refine S_gsplit rfl rfl rfl rfl (fun c15_5 => ?_) (fun c15_5 => ?_) <;> (first | (simp [*] at c15_5; done) | (try simp at c15_5)); refine S_gq rfl rfl rfl rfl rfl rfl (Q_move rfl rfl) ?_; refine S_gq rfl rfl rfl rfl rfl rfl (Q_cmp rfl rfl rfl rfl) ?_; refine S_gq rfl rfl rfl rfl rfl rfl (Q_move rfl rfl) ?_; refine S_gsplit rfl rfl rfl rfl (fun c15_6 => ?_) (fun c15_6 => ?_) <;> (first | (simp [*] at c15_6; done) | (try simp at c15_6)); (focus (refine S_gn rfl rfl rfl rfl rfl rfl ?_; refine S_gn rfl rfl rfl rfl rfl rfl ?_; refine S_gq rfl rfl rfl rfl rfl rfl (Q_pick_t rfl rfl rfl) ?_; refine S_q rfl rfl rfl (Q_pick_t rfl rfl rfl) ?_; refine S_q rfl rfl rfl (Q_assign rfl rfl) ?_; refine OPS_nil ?_; refine then_n ?_; refine WP_ret ?_; refine then_r ?_)); rotate_left 1; (focus (refine S_gq rfl rfl rfl rfl rfl rfl (Q_move rfl rfl) ?_; refine S_gq rfl rfl rfl rfl rfl rfl (Q_cmp rfl rfl rfl rfl) ?_; refine S_gq rfl rfl rfl rfl rfl rfl (Q_pick_f rfl rfl rfl) ?_; refine S_q rfl rfl rfl (Q_pick_t rfl rfl rfl) ?_; refine S_q rfl rfl rfl (Q_assign rfl rfl) ?_; refine OPS_nil ?_; refine then_n ?_; refine WP_ret ?_; refine then_r ?_)); rotate_left 1))
      · refine pret (.inl rfl) rfl ⟨_, _, rfl, rfl, rfl⟩ ?_
        rfl
      · refine pret (.inl rfl) rfl ⟨_, _, rfl, rfl, rfl⟩ ?_
        simp only [resOf]; rcases e2 with e2 | e2
        · contradiction
        · rw [e2]; rfl
  · (focus (refine WP_seq ?_; refine R_region ?_; refine S_c rfl rfl rfl (C_box rfl rfl ?_); intro b16_1; refine S_q rfl rfl rfl (Q_assign rfl rfl) ?_; refine OPS_nil ?_; refine then_n ?_; refine WP_seq ?_; refine WP_seq ?_; refine R_region ?_; refine S_c rfl rfl rfl (C_callv (awake_s) rfl rfl rfl (cal rfl) ?_); refine S_q rfl rfl rfl (Q_not rfl rfl) ?_; refine OPS_nil ?_; refine then_n ?_; refine cond_f rfl ?_; refine WP_skip ?_; refine then_n ?_; refine WP_seq ?_; refine WP_seq ?_; refine R_region ?_; refine S_q rfl rfl rfl (Q_move rfl rfl) ?_; refine S_c rfl rfl rfl (C_callv (few_s (by assumption)) rfl rfl ⟨_, _, rfl, rfl, rfl⟩ (cal rfl) ?_); refine S_q rfl rfl rfl (Q_not rfl rfl) ?_; refine OPS_nil ?_; refine then_n ?_; refine WP_cond rfl (fun c16_2 => ?_) (fun c16_2 => ?_) <;> (first | (simp [*] at c16_2; done) | (try simp at c16_2)); refine WP_seq ?_; refine R_region ?_; refine S_q rfl rfl rfl (Q_assign rfl rfl) ?_; refine OPS_nil ?_; refine then_n ?_; refine WP_ret ?_; refine then_r ?_))
    refine pret (.inl rfl) rfl ⟨_, _, rfl, rfl, rfl⟩ ?_
    rfl
end Go.Proofs.YtfhoecgiahpddaaGreat
/-
  HOW THE DATA THAT A ROW SPEAKS OF ARE OPENED: from a value's reading to its cells, in the words of the logic.
-/
set_option linter.all false
namespace Go.Mesh
open Go.RowKit
set_option linter.unusedVariables false
section
variable {H : Type} {enc : TypeId × Value → H} {P : Program} {w : World} {t e : TypeId} {cs : List Value}
def TR (enc : TypeId × Value → H) (P : Program) (w : World) (t : TypeId) (cs : List Value) : Prop := ∃ fuel x, DataW.trod enc P w 0 (fun _ => true) true fuel t cs = some x
/-- the whole heap: nobody writes it -/
def hpOf (w : World) : Frag := fun b => w.heap[b]?
theorem Holds.all (w : World) : Holds (hpOf w) [] w := ⟨⟨fun _ _ e => e, by simp⟩, List.nodup_nil, by simp⟩
theorem TR.int {k : IntKind} (h : TR enc P w t cs) (ht : P.underlying t = some (.int k)) : ∃ n, cs = [.int k n] ∧ (Lit.int k n).wf = true := by
  obtain ⟨_, _, h⟩ := h
  obtain ⟨n, e, _, hw⟩ := DataW.trod_int ht h
  exact ⟨n, e, hw⟩
theorem TR.bool (h : TR enc P w t cs) (ht : P.underlying t = some .bool) : ∃ b, cs = [.bool b] := by
  obtain ⟨_, _, h⟩ := h
  obtain ⟨b, e, _⟩ := DataW.trod_bool ht h
  exact ⟨b, e⟩
theorem TR.str (h : TR enc P w t cs) (ht : P.underlying t = some .string) : ∃ s, cs = [.string s] := by
  obtain ⟨_, _, h⟩ := h
  obtain ⟨s, e, _⟩ := DataW.trod_string ht h
  exact ⟨s, e⟩
/-- the cells of fields that lie side by side -/
def Parts (Q : TypeId → List Value → Prop) : List TypeId → List Value → Prop
  | [], cs => cs = []
  | t :: ts, cs => ∃ a b, cs = a ++ b ∧ Q t a ∧ Parts Q ts b
def tilesB (P : Program) : List Field → Nat → Nat → Bool
  | [], cur, tot => Nat.beq cur tot
  | f :: fs, cur, tot => Nat.beq f.offset cur && tilesB P fs (cur + P.cellsOf f.type) tot
theorem tilesB_le : ∀ (l : List Field) (cur tot : Nat), tilesB P l cur tot = true → cur ≤ tot
  | [], cur, tot, h => Nat.le_of_eq (Nat.eq_of_beq_eq_true h)
  | f :: fs, cur, tot, h => by
    simp only [tilesB, Bool.and_eq_true] at h
    have := tilesB_le fs _ _ h.2
    omega
theorem parts_of {Q : TypeId → List Value → Prop} : ∀ (l : List Field) (cur : Nat), tilesB P l cur cs.length = true → (∀ f, f ∈ l → ((cs.drop f.offset).take (P.cellsOf f.type)).length = P.cellsOf f.type → Q f.type ((cs.drop f.offset).take (P.cellsOf f.type))) →
    Parts Q (l.map (·.type)) (cs.drop cur)
  | [], cur, h, _ => by
    have : cur = cs.length := Nat.eq_of_beq_eq_true h
    simp [Parts, this]
  | f :: fs, cur, h, hq => by
    simp only [tilesB, Bool.and_eq_true] at h
    obtain ⟨h1, h2⟩ := h
    have h1 := Nat.eq_of_beq_eq_true h1
    have hle := tilesB_le fs _ _ h2
    have ih := parts_of fs _ h2 fun g hg => hq g (List.mem_cons_of_mem _ hg)
    refine ⟨(cs.drop cur).take (P.cellsOf f.type), cs.drop (cur + P.cellsOf f.type), ?_, ?_, ih⟩
    · rw [← List.drop_drop, List.take_append_drop]
    · have := hq f (List.mem_cons_self ..)
      rw [h1] at this
      exact this (by rw [List.length_take, List.length_drop]; omega)
theorem TR.struct {fs : Array Field} {tys : List TypeId} (h : TR enc P w t cs) (ht : P.underlying t = some (.struct fs)) (hb : tilesB P fs.toList 0 (P.cellsOf t) = true) (hty : fs.toList.map (·.type) = tys) : cs.length = P.cellsOf t ∧ Parts (fun t a => a.length = P.cellsOf t ∧ TR enc P w t a) tys cs := by
  obtain ⟨_, _, h⟩ := h
  obtain ⟨xs, n, _, _, hl, hx, hf⟩ := DataW.trod_struct ht h
  subst hty
  refine ⟨hl, ?_⟩
  have := parts_of (P := P) (Q := fun t a => a.length = P.cellsOf t ∧ TR enc P w t a) (cs := cs) fs.toList 0 (by rw [hl]; exact hb) fun f hm hlen => ?_
  · simpa using this
  · obtain ⟨i, hi⟩ := List.getElem?_of_mem hm
    have hi' : fs[i]? = some f := by simpa using hi
    have := hf i f hi'
    have hlt : i < xs.length := by rw [hx]; exact (Array.getElem?_eq_some_iff.1 hi').1
    rw [List.getElem?_eq_getElem hlt] at this
    exact ⟨hlen, n, _, this⟩
theorem list_of {α : Type} {Q : Nat → α → Prop} : ∀ n, (∀ i, i < n → ∃ y, Q i y) → ∃ xs : List α, xs.length = n ∧ ∀ (i : Nat) y, xs[i]? = some y → Q i y
  | 0, _ => ⟨[], rfl, by simp⟩
  | n + 1, h => by
    obtain ⟨xs, hl, hx⟩ := list_of n fun i hi => h i (by omega)
    obtain ⟨y, hy⟩ := h n (by omega)
    refine ⟨xs ++ [y], by simp [hl], fun i z hz => ?_⟩
    rw [List.getElem?_append] at hz
    split at hz
    · exact hx i z hz
    · rename_i hge
      have hi : i - xs.length = 0 := by
        have := (List.getElem?_eq_some_iff.1 hz).1
        simp at this; omega
      rw [hi] at hz
      simp at hz
      subst hz
      have : i = n := by omega
      rw [this]; exact hy
theorem TR.slice {α : Type} {C : CR α} {k : Nat} (h : TR enc P w t cs) (ht : P.underlying t = some (.slice e)) (hk : P.cellsOf e = k) (h0 : 0 < k)
    (hel : ∀ cs, TR enc P w e cs → ∃ y, cs.length = k ∧ ones cs = true ∧ C (hpOf w) y cs) : ∃ p c, ∃ xs : List α, cs = [.slice p xs.length c] ∧ SLB 9223372036854775807 (hpOf w) k C (.slice p xs.length c) xs := by
  obtain ⟨_, _, h⟩ := h
  rcases DataW.trod_slice ht h with ⟨rfl, _⟩ | ⟨a, len, cap, elems, rest, n, _, rfl, _, _, hlc, hcm, hel2, hget, _⟩
  · exact ⟨none, 0, [], rfl, by simp, .inl ⟨none, 0, rfl, rfl⟩⟩
  · rw [hk] at hget
    by_cases hz : len = 0
    · subst hz
      exact ⟨some a, cap, [], rfl, by simp, .inl ⟨some a, cap, rfl, rfl⟩⟩
    have hcells : ∀ i, i < len → ∃ y, ∃ us : List Value, us.length = k ∧ ones us = true ∧ C (hpOf w) y us ∧ ∀ j, j < k → w.cell? ((a.add (i * k)).add j) = us[j]? := by
      intro i hi
      have hg := hget i hi
      rw [List.getElem?_eq_getElem (by rw [hel2]; exact hi)] at hg
      cases hc : w.cells? 0 (a.add (i * k)) k with
      | none => rw [hc] at hg; cases hg
      | some us =>
        rw [hc] at hg
        obtain ⟨y, hl, ho, hC⟩ := hel us ⟨n, _, hg⟩
        simp only [World.cells?, Nat.zero_le, if_true] at hc
        exact ⟨y, us, hl, ho, hC, fun j hj => mapM_some_get hc j j (by simp [hj])⟩
    obtain ⟨b, off, spot⟩ := a
    have hsp : spot = none := by
      obtain ⟨y, us, hl, _, _, hc⟩ := hcells 0 (by omega)
      have h00 := hc 0 h0
      rw [List.getElem?_eq_getElem (by omega)] at h00
      have hs := World.cell?_spot h00
      simpa [Addr.add] using hs
    subst hsp
    have hone : ∀ i, i < len → ∃ y, ∃ us : List Value, us.length = k ∧ ones us = true ∧ C (hpOf w) y us ∧ At (hpOf w) b (off + i * k) us := by
      intro i hi
      obtain ⟨y, us, hl, ho, hC, hc⟩ := hcells i hi
      refine ⟨y, us, hl, ho, hC, ?_⟩
      have h00 := hc 0 h0
      rw [List.getElem?_eq_getElem (by omega)] at h00
      simp only [addr_add, World.cell?] at hc h00
      cases hb : w.heap[b]? with
      | none => simp only [hb] at h00; cases h00
      | some ob =>
        simp only [hb] at h00 hc
        cases ob with
        | cells arr ty fz =>
          refine ⟨arr, ty, fz, hb, fun j v hv => ?_⟩
          have := hc j (by rw [← hl]; exact (List.getElem?_eq_some_iff.1 hv).1)
          simp only [Option.isSome_none, Bool.false_eq_true, if_false] at this
          rw [this]; exact hv
        | _ => cases h00
    obtain ⟨xs, hl, hx⟩ := list_of len hone
    refine ⟨some ⟨b, off, none⟩, cap, xs, by rw [hl], by rw [hl]; unfold maxLen at hcm; omega, ?_⟩
    exact .inr ⟨b, off, cap, rfl, fun i y hy => hx i y hy⟩
/-- types of which only the cells' form is asked -/
def flatB (P : Program) : Nat → TypeId → Bool
  | 0, _ => false
  | n + 1, t => match P.underlying t with
    | some (.struct fs) => tilesB P fs.toList 0 (P.cellsOf t) && fs.toList.all fun f => flatB P n f.type
    | some (.array ..) => false
    | some _ => true
    | none => false
theorem ones_parts {Q : TypeId → List Value → Prop} (hq : ∀ t a, Q t a → ones a = true) : ∀ (ts : List TypeId) (cs : List Value), Parts Q ts cs → ones cs = true
  | [], _, e => by cases e; rfl
  | t :: ts, _, ⟨a, b, e, h1, h2⟩ => by subst e; exact ones_append (hq t a h1) (ones_parts hq ts b h2)
theorem TR.ones : ∀ (n : Nat) {t : TypeId} {cs : List Value}, TR enc P w t cs → flatB P n t = true → Mesh.ones cs = true
  | 0, _, _, _, hf => by cases hf
  | n + 1, t, cs, h, hf => by
    unfold flatB at hf
    split at hf
    · rename_i fs hu
      rw [Bool.and_eq_true, List.all_eq_true] at hf
      obtain ⟨_, hp⟩ := TR.struct (tys := fs.toList.map (·.type)) h hu hf.1 rfl
      have hmem : ∀ (ts : List TypeId) (cs : List Value), (∀ t, t ∈ ts → flatB P n t = true) → Parts (fun t a => a.length = P.cellsOf t ∧ TR enc P w t a) ts cs → Mesh.ones cs = true := by
        intro ts
        induction ts with
        | nil => intro cs _ e; cases e; rfl
        | cons t ts ih =>
          rintro _ hall ⟨a, b, rfl, ⟨_, h1⟩, h2⟩
          exact ones_append (TR.ones n h1 (hall t (List.mem_cons_self ..))) (ih b (fun u hu => hall u (List.mem_cons_of_mem _ hu)) h2)
      refine hmem _ _ (fun t ht => ?_) hp
      obtain ⟨f, hfm, rfl⟩ := List.mem_map.1 ht
      exact hf.2 f hfm
    · cases hf
    · rename_i d hns hna hu
      obtain ⟨fuel, x, h⟩ := h
      cases fuel with
      | zero => simp [DataW.trod] at h
      | succ m =>
        unfold DataW.trod at h
        rw [hu] at h
        split at h <;> first | rfl | (cases h; done) | (exfalso; simp_all; done) | skip
    · cases hf
end
end Go.Mesh
/-
  THE PROGRAM's DATA, OPENED: identities, values, nodes, graphs, references, letters, flights, stubs, scions, views.
-/
set_option linter.all false
namespace Go.Proofs.YtfhoecgiahpddaaGreat
open Go.Mesh Go.RowKit
set_option linter.unusedVariables false
set_option maxRecDepth 100000
section
variable {H : Type} {enc : TypeId × Value → H} {w : World} {cs : List Value}
theorem len1 {a : List Value} {n : Nat} (h : a.length = n) (hn : n = 1) : ∃ x, a = [x] := by
  subst hn
  match a, h with
  | [x], _ => exact ⟨x, rfl⟩
theorem len2 {a : List Value} {n : Nat} (h : a.length = n) (hn : n = 2) : ∃ x y, a = [x, y] := by
  subst hn
  match a, h with
  | [x, y], _ => exact ⟨x, y, rfl⟩
theorem len5 {a : List Value} {n : Nat} (h : a.length = n) (hn : n = 5) : ∃ x1 x2 x3 x4 x5, a = [x1, x2, x3, x4, x5] := by
  subst hn
  match a, h with
  | [x1, x2, x3, x4, x5], _ => exact ⟨_, _, _, _, _, rfl⟩
theorem len7 {a : List Value} {n : Nat} (h : a.length = n) (hn : n = 7) : ∃ x1 x2 x3 x4 x5 x6 x7, a = [x1, x2, x3, x4, x5, x6, x7] := by
  subst hn
  match a, h with
  | [x1, x2, x3, x4, x5, x6, x7], _ => exact ⟨_, _, _, _, _, _, _, rfl⟩
theorem len8 {a : List Value} {n : Nat} (h : a.length = n) (hn : n = 8) : ∃ x1 x2 x3 x4 x5 x6 x7 x8, a = [x1, x2, x3, x4, x5, x6, x7, x8] := by
  subst hn
  match a, h with
  | [x1, x2, x3, x4, x5, x6, x7, x8], _ => exact ⟨_, _, _, _, _, _, _, _, rfl⟩
theorem id_of (h : TR enc Tryz.prog w 35 cs) : ∃ y : ID, cs = idc y := by
  obtain ⟨_, a, _, rfl, ⟨_, h1⟩, b, _, rfl, ⟨_, h2⟩, rfl⟩ := h.struct (tys := [3, 3]) Tryz.underlying35 (by kernel_rfl) rfl
  obtain ⟨x, rfl, _⟩ := h1.int Tryz.underlying3
  obtain ⟨y, rfl, _⟩ := h2.int Tryz.underlying3
  exact ⟨(x, y), rfl⟩
theorem val_of (h : TR enc Tryz.prog w 42 cs) : ∃ y : Val, cs.length = 4 ∧ ones cs = true ∧ ValC (hpOf w) y cs := by
  obtain ⟨_, a, _, rfl, ⟨_, h1⟩, b, _, rfl, ⟨_, h2⟩, c, _, rfl, ⟨_, h3⟩, rfl⟩ := h.struct (tys := [3, 2, 35]) Tryz.underlying42 (by kernel_rfl) rfl
  obtain ⟨x, rfl, _⟩ := h1.int Tryz.underlying3
  obtain ⟨y, rfl, _⟩ := h2.int Tryz.underlying2
  obtain ⟨z, rfl⟩ := id_of h3
  exact ⟨(x, y, z), rfl, rfl, rfl⟩
theorem idE_of (h : TR enc Tryz.prog w 35 cs) : ∃ y : ID, cs.length = 2 ∧ ones cs = true ∧ IDC (hpOf w) y cs := by
  obtain ⟨y, rfl⟩ := id_of h
  exact ⟨y, rfl, rfl, rfl⟩
theorem int_of (h : TR enc Tryz.prog w 3 cs) : ∃ y : Int, cs.length = 1 ∧ ones cs = true ∧ IntC (hpOf w) y cs := by
  obtain ⟨x, rfl, _⟩ := h.int Tryz.underlying3
  exact ⟨x, rfl, rfl, rfl⟩
theorem ref_of (h : TR enc Tryz.prog w 76 cs) : ∃ y : Ref, cs.length = 8 ∧ ones cs = true ∧ RefC (hpOf w) y cs := by
  obtain ⟨_, a, _, rfl, ⟨_, h1⟩, b, _, rfl, ⟨_, h2⟩, c, _, rfl, ⟨_, h3⟩, d, _, rfl, ⟨_, h4⟩, e, _, rfl, ⟨_, h5⟩, f, _, rfl, ⟨_, h6⟩, g, _, rfl, ⟨_, h7⟩, rfl⟩ := h.struct (tys := [3, 2, 3, 60, 35, 3, 4]) Tryz.underlying76 (by kernel_rfl) rfl
  obtain ⟨x1, rfl, _⟩ := h1.int Tryz.underlying3
  obtain ⟨x2, rfl, _⟩ := h2.int Tryz.underlying2
  obtain ⟨x3, rfl, _⟩ := h3.int Tryz.underlying3
  obtain ⟨x4, rfl, _⟩ := h4.int Tryz.underlying60
  obtain ⟨x5, rfl⟩ := id_of h5
  obtain ⟨x6, rfl, _⟩ := h6.int Tryz.underlying3
  obtain ⟨x7, rfl⟩ := h7.bool Tryz.underlying4
  exact ⟨⟨x1, x2, x3, x4, x5, x6, x7⟩, rfl, rfl, rfl⟩
theorem node_of (h : TR enc Tryz.prog w 38 cs) : ∃ y : Nd, cs.length = 5 ∧ ones cs = true ∧ NodeC 9223372036854775807 (hpOf w) y cs := by
  obtain ⟨_, a, _, rfl, ⟨_, h1⟩, b, _, rfl, ⟨_, h2⟩, c, _, rfl, ⟨_, h3⟩, d, _, rfl, ⟨_, h4⟩, rfl⟩ := h.struct (tys := [35, 3, 3, 36]) Tryz.underlying38 (by kernel_rfl) rfl
  obtain ⟨x1, rfl⟩ := id_of h1
  obtain ⟨x2, rfl, _⟩ := h2.int Tryz.underlying3
  obtain ⟨x3, rfl, _⟩ := h3.int Tryz.underlying3
  obtain ⟨p, c, xs, rfl, s⟩ := h4.slice (C := ValC) Tryz.underlying36 (by kernel_rfl) (by decide) fun _ => val_of
  exact ⟨⟨x1, x2, x3, xs⟩, rfl, rfl, p, c, rfl, s⟩
theorem graph_of (h : TR enc Tryz.prog w 27 cs) : ∃ y : List Nd, cs.length = 1 ∧ ones cs = true ∧ GraphC 9223372036854775807 (hpOf w) y cs := by
  obtain ⟨_, a, _, rfl, ⟨_, h1⟩, rfl⟩ := h.struct (tys := [25]) Tryz.underlying27 (by kernel_rfl) rfl
  obtain ⟨p, c, xs, rfl, s⟩ := h1.slice (C := NodeC 9223372036854775807) Tryz.underlying25 (by kernel_rfl) (by decide) fun _ => node_of
  exact ⟨xs, rfl, rfl, p, c, rfl, s⟩
theorem letter_of (h : TR enc Tryz.prog w 79 cs) : ∃ y : List Ref, cs.length = 4 ∧ ones cs = true ∧ LetterC 9223372036854775807 (hpOf w) y cs := by
  obtain ⟨_, a, _, rfl, ⟨_, h1⟩, b, _, rfl, ⟨_, h2⟩, c, _, rfl, ⟨_, h3⟩, rfl⟩ := h.struct (tys := [35, 9, 77]) Tryz.underlying79 (by kernel_rfl) rfl
  obtain ⟨x1, rfl⟩ := id_of h1
  obtain ⟨x2, rfl⟩ := h2.str Tryz.underlying9
  obtain ⟨p, c, xs, rfl, s⟩ := h3.slice (C := RefC) Tryz.underlying77 (by kernel_rfl) (by decide) fun _ => ref_of
  exact ⟨xs, rfl, rfl, _, _, _, p, c, rfl, s⟩
theorem stub_of (h : TR enc Tryz.prog w 63 cs) : ∃ y : StubE, cs.length = 12 ∧ ones cs = true ∧ StubC (hpOf w) y cs := by
  have ho := h.ones 5 (by kernel_rfl)
  obtain ⟨_, a, _, rfl, ⟨_, h1⟩, b, _, rfl, ⟨_, h2⟩, c, _, rfl, ⟨_, h3⟩, d, _, rfl, ⟨l4, h4⟩, e, _, rfl, ⟨l5, h5⟩, f, _, rfl, ⟨l6, h6⟩, g, _, rfl, ⟨l7, h7⟩, g8, _, rfl, ⟨_, h8⟩, g9, _, rfl, ⟨_, h9⟩, g10, _, rfl, ⟨l10, h10⟩, rfl⟩ := h.struct (tys := [3, 60, 35, 3, 3, 3, 4, 4, 4, 61]) Tryz.underlying63 (by kernel_rfl) rfl
  obtain ⟨x1, rfl, _⟩ := h1.int Tryz.underlying3
  obtain ⟨x2, rfl, _⟩ := h2.int Tryz.underlying60
  obtain ⟨x3, rfl⟩ := id_of h3
  obtain ⟨x4, rfl⟩ := len1 l4 (by kernel_rfl)
  obtain ⟨x5, rfl⟩ := len1 l5 (by kernel_rfl)
  obtain ⟨x6, rfl⟩ := len1 l6 (by kernel_rfl)
  obtain ⟨x7, rfl⟩ := len1 l7 (by kernel_rfl)
  obtain ⟨x8, rfl⟩ := h8.bool Tryz.underlying4
  obtain ⟨x9, rfl⟩ := h9.bool Tryz.underlying4
  obtain ⟨x10, x11, rfl⟩ := len2 l10 (by kernel_rfl)
  exact ⟨⟨x1, x2, x3, x8, x9⟩, rfl, ho, _, _, _, _, _, _, rfl⟩
theorem scion_of (h : TR enc Tryz.prog w 128 cs) : ∃ y : ScionE, cs.length = 12 ∧ ones cs = true ∧ ScionC (hpOf w) y cs := by
  have ho := h.ones 5 (by kernel_rfl)
  obtain ⟨_, a, _, rfl, ⟨_, h1⟩, b, _, rfl, ⟨_, h2⟩, c, _, rfl, ⟨_, h3⟩, d, _, rfl, ⟨l4, h4⟩, e, _, rfl, ⟨l5, h5⟩, f, _, rfl, ⟨l6, h6⟩, g, _, rfl, ⟨l7, h7⟩, g8, _, rfl, ⟨l8, h8⟩, g9, _, rfl, ⟨l9, h9⟩, g10, _, rfl, ⟨l10, h10⟩, rfl⟩ := h.struct (tys := [3, 60, 35, 3, 3, 3, 4, 4, 4, 61]) Tryz.underlying128 (by kernel_rfl) rfl
  obtain ⟨x1, rfl, _⟩ := h1.int Tryz.underlying3
  obtain ⟨x2, rfl, _⟩ := h2.int Tryz.underlying60
  obtain ⟨x3, rfl⟩ := id_of h3
  obtain ⟨x4, rfl⟩ := len1 l4 (by kernel_rfl)
  obtain ⟨x5, rfl⟩ := len1 l5 (by kernel_rfl)
  obtain ⟨x6, rfl⟩ := len1 l6 (by kernel_rfl)
  obtain ⟨x7, rfl⟩ := len1 l7 (by kernel_rfl)
  obtain ⟨x8, rfl⟩ := len1 l8 (by kernel_rfl)
  obtain ⟨x9, rfl⟩ := len1 l9 (by kernel_rfl)
  obtain ⟨x10, x11, rfl⟩ := len2 l10 (by kernel_rfl)
  exact ⟨⟨x1, x2, x3⟩, rfl, ho, _, _, _, _, _, _, _, _, rfl⟩
theorem named_of (h : TR enc Tryz.prog w 106 cs) : ∃ y : ID, cs.length = 3 ∧ ones cs = true ∧ NamedC (hpOf w) y cs := by
  obtain ⟨_, a, _, rfl, ⟨_, h1⟩, b, _, rfl, ⟨_, h2⟩, rfl⟩ := h.struct (tys := [9, 35]) Tryz.underlying106 (by kernel_rfl) rfl
  obtain ⟨x1, rfl⟩ := h1.str Tryz.underlying9
  obtain ⟨x2, rfl⟩ := id_of h2
  exact ⟨x2, rfl, rfl, _, rfl⟩
theorem mail_of (h : TR enc Tryz.prog w 74 cs) : ∃ y : MailE, cs.length = 6 ∧ ones cs = true ∧ MailC 9223372036854775807 (hpOf w) y cs := by
  obtain ⟨_, a, _, rfl, ⟨_, h1⟩, b, _, rfl, ⟨_, h2⟩, c, _, rfl, ⟨_, h3⟩, d, _, rfl, ⟨_, h4⟩, rfl⟩ := h.struct (tys := [35, 35, 9, 36]) Tryz.underlying74 (by kernel_rfl) rfl
  obtain ⟨x1, rfl⟩ := id_of h1
  obtain ⟨x2, rfl⟩ := id_of h2
  obtain ⟨x3, rfl⟩ := h3.str Tryz.underlying9
  obtain ⟨p, c, xs, rfl, s⟩ := h4.slice (C := ValC) Tryz.underlying36 (by kernel_rfl) (by decide) fun _ => val_of
  exact ⟨⟨x2, xs⟩, rfl, rfl, _, _, _, p, c, rfl, s⟩
theorem flight_of (h : TR enc Tryz.prog w 93 cs) : ∃ y : Flight, cs.length = 41 ∧ ones cs = true ∧ FlightC 9223372036854775807 (hpOf w) y cs := by
  have ho := h.ones 9 (by kernel_rfl)
  obtain ⟨_, a, _, rfl, ⟨_, h1⟩, b, _, rfl, ⟨_, h2⟩, c, _, rfl, ⟨_, hm⟩, rfl⟩ := h.struct (tys := [3, 3, 91]) Tryz.underlying93 (by kernel_rfl) rfl
  obtain ⟨_, a, _, rfl, ⟨_, m1⟩, b, _, rfl, ⟨_, m2⟩, c, _, rfl, ⟨l3, m3⟩, d, _, rfl, ⟨l4, m4⟩, e, _, rfl, ⟨_, m5⟩, f, _, rfl, ⟨_, m6⟩, g, _, rfl, ⟨_, m7⟩, g8, _, rfl, ⟨l8, m8⟩, g9, _, rfl, ⟨l9, m9⟩, g10, _, rfl, ⟨l10, m10⟩, rfl⟩ := hm.struct (tys := [3, 60, 3, 9, 76, 79, 83, 61, 86, 89]) Tryz.underlying91 (by kernel_rfl) rfl
  obtain ⟨_, a, _, rfl, ⟨_, p1⟩, b, _, rfl, ⟨_, p2⟩, c, _, rfl, ⟨_, p3⟩, d, _, rfl, ⟨_, p4⟩, e, _, rfl, ⟨_, p5⟩, f, _, rfl, ⟨_, p6⟩, g, _, rfl, ⟨lw, p7⟩, rfl⟩ := m7.struct (tys := [60, 35, 3, 3, 77, 80, 81]) Tryz.underlying83 (by kernel_rfl) rfl
  obtain ⟨to, rfl, _⟩ := h1.int Tryz.underlying3
  obtain ⟨seq, rfl, _⟩ := h2.int Tryz.underlying3
  obtain ⟨kd, rfl, _⟩ := m1.int Tryz.underlying3
  obtain ⟨nu, rfl, _⟩ := m2.int Tryz.underlying60
  obtain ⟨a1, rfl⟩ := len1 l3 (by kernel_rfl)
  obtain ⟨a2, rfl⟩ := len1 l4 (by kernel_rfl)
  obtain ⟨rf, _, _, hr⟩ := ref_of m5
  cases hr
  obtain ⟨lt, _, _, b1, b2, b3, pa, qa, rfl, sa⟩ := letter_of m6
  obtain ⟨pn, rfl, _⟩ := p1.int Tryz.underlying60
  obtain ⟨pi, rfl⟩ := id_of p2
  obtain ⟨pk, rfl, _⟩ := p3.int Tryz.underlying3
  obtain ⟨pc, rfl, _⟩ := p4.int Tryz.underlying3
  obtain ⟨pf, qf, fs, rfl, sf⟩ := p5.slice (C := RefC) Tryz.underlying77 (by kernel_rfl) (by decide) fun _ => ref_of
  obtain ⟨pm, qm, ms, rfl, sm⟩ := p6.slice (C := LetterC 9223372036854775807) Tryz.underlying80 (by kernel_rfl) (by decide) fun _ => letter_of
  obtain ⟨wv, rfl⟩ := len1 lw (by kernel_rfl)
  obtain ⟨y1, y2, rfl⟩ := len2 l8 (by kernel_rfl)
  obtain ⟨y3, y4, y5, y6, y7, y8, y9, y10, rfl⟩ := len8 l9 (by kernel_rfl)
  obtain ⟨z1, z2, z3, z4, z5, rfl⟩ := len5 l10 (by kernel_rfl)
  exact ⟨⟨to, seq, ⟨kd, nu, rf, lt, ⟨pn, pi, pk, pc, fs, ms⟩⟩⟩, rfl, ho, a1, a2, b1, b2, b3, pa, qa, pf, qf, pm, qm, wv, y1, y2, y3, y4, y5, y6, y7, y8, y9, y10, z1, z2, z3, z4, z5, rfl, sa, sf, sm⟩
theorem wf_i64 {n : Int} (h : (Lit.int .i64 n).wf = true) : inI64 n := by
  simp [Lit.wf, IntKind.min, IntKind.max, IntKind.signed, IntKind.bits] at h
  unfold inI64; omega
theorem view_of (h : TR enc Tryz.prog w 57 cs) : ∃ y : View, cs.length = 13 ∧ ones cs = true ∧ ViewC 9223372036854775807 (hpOf w) y cs := by
  have ho := h.ones 12 (by kernel_rfl)
  obtain ⟨_, a, _, rfl, ⟨_, h1⟩, b, _, rfl, ⟨l2, h2⟩, c, _, rfl, ⟨_, h3⟩, d, _, rfl, ⟨_, h4⟩, e, _, rfl, ⟨_, h5⟩, f, _, rfl, ⟨_, h6⟩, g, _, rfl, ⟨_, h7⟩, g8, _, rfl, ⟨l8, h8⟩, g9, _, rfl, ⟨l9, h9⟩, g10, _, rfl, ⟨_, h10⟩, g11, _, rfl, ⟨_, h11⟩, g12, _, rfl, ⟨l12, h12⟩, g13, _, rfl, ⟨l13, h13⟩, rfl⟩ :=
    h.struct (tys := [3, 3, 27, 50, 51, 52, 53, 54, 31, 55, 46, 3, 3]) Tryz.underlying57 (by kernel_rfl) rfl
  obtain ⟨m, rfl, hw⟩ := h1.int Tryz.underlying3
  obtain ⟨md, rfl⟩ := len1 l2 (by kernel_rfl)
  obtain ⟨g, _, _, po, co, rfl, s1⟩ := graph_of h3
  obtain ⟨ps, qs, st, rfl, s2⟩ := h4.slice (C := StubC) Tryz.underlying50 (by kernel_rfl) (by decide) fun _ => stub_of
  obtain ⟨pc, qc, sc, rfl, s3⟩ := h5.slice (C := ScionC) Tryz.underlying51 (by kernel_rfl) (by decide) fun _ => scion_of
  obtain ⟨pn, qn, nm, rfl, s4⟩ := h6.slice (C := NamedC) Tryz.underlying52 (by kernel_rfl) (by decide) fun _ => named_of
  obtain ⟨pm, qm, ml, rfl, s5⟩ := h7.slice (C := MailC 9223372036854775807) Tryz.underlying53 (by kernel_rfl) (by decide) fun _ => mail_of
  obtain ⟨w1, rfl⟩ := len1 l8 (by kernel_rfl)
  obtain ⟨w2, rfl⟩ := len1 l9 (by kernel_rfl)
  obtain ⟨pf, qf, fl, rfl, s6⟩ := h10.slice (C := FlightC 9223372036854775807) Tryz.underlying55 (by kernel_rfl) (by decide) fun _ => flight_of
  obtain ⟨pr, qr, rv, rfl, s7⟩ := h11.slice (C := IntC) Tryz.underlying46 (by kernel_rfl) (by decide) fun _ => int_of
  obtain ⟨e1, rfl⟩ := len1 l12 (by kernel_rfl)
  obtain ⟨e2, rfl⟩ := len1 l13 (by kernel_rfl)
  exact ⟨⟨m, g, st, sc, nm, ml, fl, rv⟩, rfl, ho, wf_i64 hw, md, po, co, ps, qs, pc, qc, pn, qn, pm, qm, w1, w2, pf, qf, pr, qr, e1, e2, rfl, s1, s2, s3, s4, s5, s6, s7⟩
/-- an identity -/
theorem idv_of {v : Value} {d : DataW H} {ps : List MemPlace} {r : Go.Reach} {b0 : Nat} (hval : Value.okWide Tryz.prog w r b0 35 v) (h : DataW.Trod enc Tryz.prog w 0 (fun _ => true) true 35 v d ps) : ∃ id : ID, v = .agg (idc id).toArray := by
  obtain ⟨cs, rfl, _⟩ := Go.WideShapes.okWide_struct Tryz.underlying35 hval
  obtain ⟨fuel, hf⟩ := h
  have ht : TR enc Tryz.prog w 35 cs.toList := ⟨fuel, _, hf⟩
  obtain ⟨y, hy⟩ := id_of ht
  exact ⟨y, by rw [← hy]⟩
/-- the argument of the laws -/
theorem views_of {v : Value} {d : DataW H} {ps : List MemPlace} {r : Go.Reach} {b0 : Nat} (hval : Value.okWide Tryz.prog w r b0 22 v) (h : DataW.Trod enc Tryz.prog w 0 (fun _ => true) true 22 v d ps) : ∃ vs : List View, SLB 9223372036854775807 (hpOf w) 13 (ViewC 9223372036854775807) v vs := by
  obtain ⟨a, len, cap, rfl⟩ := Go.WideShapes.okWide_slice Tryz.underlying22 hval
  obtain ⟨fuel, hf⟩ := h
  have ht : TR enc Tryz.prog w 22 [.slice a len cap] := ⟨fuel, _, hf⟩
  obtain ⟨p, c, xs, e, s⟩ := ht.slice (C := ViewC 9223372036854775807) Tryz.underlying22 (by kernel_rfl) (by decide) fun _ => view_of
  cases e
  exact ⟨xs, s⟩
end
end Go.Proofs.YtfhoecgiahpddaaGreat
/-
  FROM A CONTRACT TO A ROW's STEP: what was in memory is as it was; the arguments read as they did.
-/
set_option linter.all false
namespace Go.Mesh
open Go.RowKit
section
variable {H : Type} {enc : TypeId × Value → H} {P : Program} {W W' : World}
/-- the old blocks are as they were -/
structure Same (W W' : World) : Prop where
  os : W'.os = W.os
  output : W'.output = W.output
  block : ∀ b, b < W.heap.size → W'.heap[b]? = W.heap[b]?
theorem Same.kept (x : Same W W') (may : MemPlace → Prop) : W.keptBut W' may := by
  refine ⟨x.os, x.output, fun i hi => ?_⟩
  have hk := (World.keptBut_refl W may).2.2 i hi
  rw [x.block i hi]
  exact hk
theorem Same.at (x : Same W W') {p : MemPlace} (hp : p.block < W.heap.size) : W.sameAt W' p := by
  cases p with
  | cell b off => simp only [World.sameAt, World.cell?]; rw [x.block b hp]
  | map b => exact x.block b hp
theorem TrodAll_same (hl : laidOutB P = true) (x : Same W W') {sp : Nat → Bool} : ∀ (ts : List TypeId) (vs : List Value) (ds : List (DataW H)) (ps : List MemPlace), (∀ t, t ∈ ts → P.readableRec t = true ∧ t < P.types.size) →
    DataW.TrodAll enc P W 0 (fun _ => true) true ts vs ds ps → (∀ p, p ∈ ps → p.block < W.heap.size) → (∀ p, p ∈ ps → sp p.block = true) → DataW.TrodAll enc P W' 0 sp true ts vs ds ps
  | [], [], [], ps, _, h, _, _ => h
  | t :: ts, v :: vs, d :: ds, ps, hr, h, hlt, hs => by
    obtain ⟨p, q, h1, h2, rfl⟩ := h
    obtain ⟨hr1, hr2⟩ := hr t (List.mem_cons_self ..)
    refine ⟨p, q, WideElems.Trod_stays hl hr1 hr2 h1 (fun y hy => x.at (hlt y (List.mem_append_left _ hy))) (fun y hy => hs y (List.mem_append_left _ hy)), ?_, rfl⟩
    exact TrodAll_same hl x ts vs ds q (fun u hu => hr u (List.mem_cons_of_mem _ hu)) h2 (fun y hy => hlt y (List.mem_append_right _ hy)) (fun y hy => hs y (List.mem_append_right _ hy))
theorem calls_of_pspec {f : FuncId} {args : Array Value} {v : Value} (x : PSpec P f args (hpOf W) (fun _ u => u = v)) : Calls P f args W fun e W' => e = .returned v ∧ Same W W' := by
  refine (x W (Holds.all W)).mono ?_
  rintro e W' ⟨u, h', L', rfl, ⟨_, rfl⟩, y⟩
  exact ⟨rfl, y.os, y.output, fun b hb => y.frame b hb (by simp [ids])⟩
/-- what a law that returns true leaves -/
theorem law_post {f : Func} {s : ChangeSpec} {args : Array Value} {ds gs : List (DataW H)} {before : List MemPlace} (hl : laidOutB P = true) (hr : ∀ t, t ∈ f.params.toList → P.readableRec t = true ∧ t < P.types.size)
    (hvars : s.vars = []) (hW : DataW.Whole enc P f.params.toList s.vars false W args.toList ds gs before) (hfn : (s.fn H (ds ++ gs)).results = [.lit (.bool true)] ∧ (s.fn H (ds ++ gs)).args = ds ∧ (s.fn H (ds ++ gs)).vars = []) (hb : P.underlying 4 = some .bool) (hres : f.resultTypes = #[4])
    (x : Same W W') : s.post enc P f false true false false W args (.bool true) W' := by
  have hlt := fun p hp => hW.lt p hp
  obtain ⟨h1, h2, h3⟩ := hfn
  have hW' := hW
  obtain ⟨p, q, hA, hV, rfl, hfz, hnd⟩ := hW
  have hq : q = [] := by
    rw [hvars] at hV
    cases gs with
    | nil => exact hV
    | cons g gs => exact hV.elim
  subst hq
  refine ⟨ds, gs, p ++ [], [], p, [], hW', ?_, ?_, ?_, x.kept _, fun h => by cases h⟩
  · rw [h1, hres]
    exact trodAll_cons_mk (p' := []) (shut_bool hb true) rfl
  · rw [h2]
    exact TrodAll_same hl x _ _ _ _ hr hA (fun y hy => hlt y (by simpa using hy)) (fun y hy => by simpa using hlt y (by simpa using hy))
  · rw [h3, hvars]; rfl
end
end Go.Mesh
/- For every list of views, machine and identity: ObserverPaths returns true and leaves its arguments as they were. No condition. -/
set_option linter.all false
namespace Go.Proofs.YtfhoecgiahpddaaGreat
open Go.Mesh Go.RowKit Go.ChangeShapes Go.WideShapes Go.ChangeAt
set_option linter.unusedVariables false
theorem paths_own : ownKnob Tryz.prog.godebug = none := by kernel_rfl
theorem paths_laid : laidOutB Tryz.prog = true := by kernel_rfl
set_option maxRecDepth 100000 in
theorem paths_lifted (os : Os) (started : os.Started) (H : Type) (enc : TypeId × Value → H) :
    ReturnsInHanded {} Tryz.checked os 5 .any (Rows.observerPathsSpec.pre6 enc Tryz.prog Tryz.f5 Rows.observerPathsRow.domain false) (Rows.observerPathsSpec.post enc Tryz.prog Tryz.f5 false true false false) := by
  refine returnsInHanded_of_change (C := Tryz.checked) paths_own started (by kernel_rfl) Tryz.func5
    (ChangeSpec.witness6 (enc := enc) (C := Tryz.checked) false ⟨#[], #[.slice none 0 0, .int .i64 0, .agg #[.int .i64 0, .int .i64 0]], []⟩ 8 (by kernel_rfl) (by kernel_rfl) (by kernel_rfl) (by kernel_rfl)) ?_
  intro W base args ds gs before hval0 hW hcnd _
  have hval : ∀ (j : Nat) t v, Tryz.f5.params[j]? = some t → args[j]? = some v → Value.okWide Tryz.prog W .any base t v := hval0
  have hW' := hW
  obtain ⟨p, q, hA0, hV, rfl, hfz, hnd⟩ := hW
  have hA : DataW.TrodAll enc Tryz.prog W 0 (fun _ => true) true Tryz.f5.params.toList args.toList ds p := hA0
  rw [Tryz.params5] at hA hval
  obtain ⟨v0, vs0, d0, ds0, p0, q0, hargs, rfl, rfl, h0, r0⟩ := trodAll_cons hA
  obtain ⟨v1, vs1, d1, ds1, p1, q1, rfl, rfl, rfl, h1, r1⟩ := trodAll_cons r0
  obtain ⟨v2, vs2, d2, ds2, p2, q2, rfl, rfl, rfl, h2, r2⟩ := trodAll_cons r1
  obtain ⟨rfl, rfl, rfl⟩ := trodAll_nil r2
  obtain rfl : args = #[v0, v1, v2] := by cases args; simp_all
  obtain ⟨rfl, rfl⟩ := trodVars_none hV
  obtain ⟨vs, hs⟩ := views_of (hval 0 22 v0 rfl rfl) h0
  obtain ⟨n, rfl, -⟩ := open_int Tryz.underlying3 (hval 1 3 v1 rfl rfl) h1
  obtain ⟨id, rfl⟩ := idv_of (hval 2 35 v2 rfl rfl) h2
  refine (calls_of_pspec (paths_s hs)).mono fun e W' ⟨he, hg⟩ => ?_
  subst he
  refine ⟨_, rfl, law_post paths_laid ?_ rfl hW' ⟨rfl, rfl, rfl⟩ Tryz.underlying4 (by kernel_rfl) hg⟩
  rw [Tryz.params5]
  intro t ht
  have : t = 22 ∨ t = 3 ∨ t = 35 := by simpa using ht
  rcases this with rfl | rfl | rfl
  all_goals exact ⟨by kernel_rfl, of_decide_eq_true (by kernel_rfl)⟩
theorem paths_over : Rows.observerPathsRow.holds Tryz.pinned (OpenSpec.ofChange Rows.observerPathsSpec) :=
  OpenClaim.holds_of_wide 5 Tryz.f5 rfl rfl rfl rfl rfl rfl rfl ⟨rfl, rfl, rfl, rfl, rfl⟩ rfl rfl rfl rfl rfl (by kernel_rfl) Tryz.func5 (by kernel_rfl)
    (of_decide_eq_true (by kernel_rfl)) (by unfold Func.isWrapper; first | (rw [if_pos (by decide +kernel)]; kernel_rfl) | (rw [if_neg (by decide +kernel)]; exact ⟨rfl, rfl⟩))
    (fun os started H enc _ => paths_lifted os started H enc)
theorem observerPaths_holds : Rows.ObserverPathsSaid := paths_over
#print axioms observerPaths_holds
end Go.Proofs.YtfhoecgiahpddaaGreat
