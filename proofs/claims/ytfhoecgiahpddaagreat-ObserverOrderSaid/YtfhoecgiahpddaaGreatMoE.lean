/- For every list of views and byte: ObserverOrder returns true and leaves its arguments as they were. No condition. -/
import Derived.ChangeArms
import Derived.ChangeReads
import Derived.WideShapes
import Derived.Test.YtfhoecgiahpddaaGreatChecked
import Derived.KernelRfl
import Derived.Test.YtfhoecgiahpddaaGreatRows
import Derived.WalkKit
import Derived.ProofKit
import Derived.OpenShut
import Derived.Carry
import Derived.Test.YtfhoecgiahpddaaGreatMoA
import Derived.Test.YtfhoecgiahpddaaGreatMoB
import Derived.Test.YtfhoecgiahpddaaGreatMoC
import Derived.Test.YtfhoecgiahpddaaGreatMoD
/-
  THE LAW ObserverOrder returns true.
-/
set_option linter.all false
namespace Go.Proofs.YtfhoecgiahpddaaGreat
open Go.Mesh Go.RowKit
set_option maxRecDepth 100000
set_option linter.unusedVariables false
set_option maxHeartbeats 4000000
attribute [local irreducible] WP OPS ANY ANYo LG LV FSpec PSpec QOP OPc OPw thenQ blockQ roundQ roundF retQ retM Rd At SLB OS cmpI orI cmpID namedB valB nodeB kindB validG valAux idxI findG zeroV viewOf vwAt idxOf recv flyB scionOf moveOf numberedOf idOf valueOf mget mput localB carriedB stubOf followF followOf flOf flightsOf flPre setL minusL compactL putI mergeN insN insAll unionR NMap Coll retN bodyS GMap Dfs refsV refsOf reachL movedOf movedG graphParts graphR isMove flightIDs mailIDs viewIDs rawRoots rootsR reachR deadN viewObjs garbageOf garbageR objsL thereB oddB badNode lostF badStub safe1 safe2 safe3 safe4 safeR msgB sizesB smallV fewB plainV plainN plainTo disagree agreesB BMap Seen
theorem lawOrder_s {h : Frag} {pv : Option Addr} {cv : Nat} {vs : List View} {m : Nat} (hs : SLB 9223372036854775807 h 13 (ViewC 9223372036854775807) (.slice pv vs.length cv) vs) (hcv : vs.length ≤ cv) (hm : m ≤ 255) : PSpec Tryz.prog 7 #[.slice pv vs.length cv, .int .u8 (m : Int)] h (fun _ v => v = .bool true) := by
  refine pspec_of (vs := [.slice pv vs.length cv, .int .u8 (m : Int)]) Tryz.func7 Tryz.ntmps7 rfl rfl ?_
  by_cases hfew : fewB vs = true
  · have sm := few_small hfew
    have hB := hs
    replace hs := slb_small hs sm
    have hlen := sm.len
    by_cases h0 : vs.length = 0
    · (focus (refine Wr ?_; refine Sm rfl ?_; refine On ?_; refine WP_seq ?_; refine Wr ?_; refine S_c rfl rfl rfl (C_callv (awake_s) rfl rfl rfl (cal rfl) ?_); refine S_q rfl rfl rfl (Q_not rfl rfl) ?_; refine On ?_; refine cond_f rfl ?_; refine WP_skip ?_; refine then_n ?_; refine WP_seq ?_; refine Wr ?_; refine Sm rfl ?_; refine S_c rfl rfl rfl (C_callv (few_s ‹_›) rfl rfl ⟨_, _, rfl, rfl, rfl⟩ (cal rfl) ?_); refine S_q rfl rfl rfl (Q_not rfl rfl) ?_; refine Sm rfl ?_; refine S_gsplit rfl rfl rfl rfl (fun c0_1 => ?_) (fun c0_1 => ?_) <;> (first | (simp [*] at c0_1; done) | (try simp at c0_1)); refine S_gq rfl rfl rfl rfl rfl rfl (Q_move rfl rfl) ?_; refine S_gq rfl rfl rfl rfl rfl rfl (Q_len rfl rfl rfl rfl rfl rfl) ?_; refine S_gq rfl rfl rfl rfl rfl rfl (Q_cmp rfl rfl rfl rfl) ?_; refine S_q rfl rfl rfl (Q_pick_f rfl rfl rfl) ?_; refine On ?_; refine WP_cond rfl (fun c0_2 => ?_) (fun c0_2 => ?_) <;> (first | (simp [*] at c0_2; done) | (try simp at c0_2)); refine Wr ?_; refine Sm rfl ?_; refine On ?_; refine WP_ret ?_; refine then_r ?_))
      refine pret (.inl rfl) rfl ⟨_, _, rfl, rfl, rfl⟩ ?_
      rfl
    (focus (refine Wr ?_; refine Sm rfl ?_; refine On ?_; refine WP_seq ?_; refine Wr ?_; refine S_c rfl rfl rfl (C_callv (awake_s) rfl rfl rfl (cal rfl) ?_); refine S_q rfl rfl rfl (Q_not rfl rfl) ?_; refine On ?_; refine cond_f rfl ?_; refine WP_skip ?_; refine then_n ?_; refine WP_seq ?_; refine Wr ?_; refine Sm rfl ?_; refine S_c rfl rfl rfl (C_callv (few_s ‹_›) rfl rfl ⟨_, _, rfl, rfl, rfl⟩ (cal rfl) ?_); refine S_q rfl rfl rfl (Q_not rfl rfl) ?_; refine Sm rfl ?_; refine S_gsplit rfl rfl rfl rfl (fun c1_1 => ?_) (fun c1_1 => ?_) <;> (first | (simp [*] at c1_1; done) | (try simp at c1_1)); refine S_gq rfl rfl rfl rfl rfl rfl (Q_move rfl rfl) ?_; refine S_gq rfl rfl rfl rfl rfl rfl (Q_len rfl rfl rfl rfl rfl rfl) ?_; refine S_gq rfl rfl rfl rfl rfl rfl (Q_cmp rfl rfl rfl rfl) ?_; refine S_q rfl rfl rfl (Q_pick_f rfl rfl rfl) ?_; refine On ?_; refine WP_cond rfl (fun c1_2 => ?_) (fun c1_2 => ?_) <;> (first | (simp [*] at c1_2; done) | (try simp at c1_2)); refine WP_skip ?_; refine then_n ?_; refine WP_seq ?_; refine Wr ?_; refine Sm rfl ?_; refine S_q rfl rfl rfl (Q_len rfl rfl rfl rfl rfl rfl) ?_; refine Sm rfl ?_; refine On ?_; refine WP_block ?_))
    (refine WP_loopC (α := Nat) [24, 0, 1] (fun (i : Nat) => vs.length - i) (fun (i : Nat) => [(25, .int .i64 (i : Int))]) (fun hh (i : Nat) => hh = h ∧ i ≤ vs.length ∧ ((vs.take i).map (·.machine)).Nodup) 0 ⟨_, _, rfl, ⟨_, _, rfl, ⟨_, _, rfl, rfl, rfl⟩, rfl⟩, rfl⟩ (by repeat' first | exact trivial | refine ⟨rfl, ?_⟩) ?_ ?_)
    · exact ⟨rfl, Nat.zero_le _, by simp⟩
    rintro h1 i _ ⟨rfl, hi, hnd⟩
    by_cases hlt : i < vs.length
    · obtain ⟨v, ev⟩ := get_of hlt
      (focus (refine Wr ?_; refine Sc rfl rfl rfl rfl rfl rfl rfl ?_; refine On ?_; refine WP_seq ?_; refine WP_cond rfl (fun c3_1 => ?_) (fun c3_1 => ?_) <;> (first | (simp [*] at c3_1; done) | (try simp at c3_1)); refine WP_skip ?_; refine then_n ?_; refine WP_seq ?_; refine WP_block ?_; refine Wr ?_; refine Sm rfl ?_; refine Sm rfl ?_; refine On ?_; refine Wr ?_; refine Sm rfl ?_; refine On ?_; refine WP_block ?_))
      (refine WP_loopC (α := Nat) [5, 25, 24, 0, 1] (fun (k : Nat) => i - k) (fun (k : Nat) => [(6, .int .i64 (k : Int))]) (fun hh (k : Nat) => hh = h1 ∧ k ≤ i ∧ ∀ j w, j < k → vs[j]? = some w → ¬ v.machine = w.machine) 0 ⟨_, _, rfl, ⟨_, _, rfl, ⟨_, _, rfl, ⟨_, _, rfl, ⟨_, _, rfl, rfl, rfl⟩, rfl⟩, rfl⟩, rfl⟩, rfl⟩ (by repeat' first | exact trivial | refine ⟨rfl, ?_⟩) ?_ ?_)
      · exact ⟨rfl, Nat.zero_le _, fun j w hj => absurd hj (Nat.not_lt_zero _)⟩
      rintro h2 k _ ⟨rfl, hk, hne⟩
      by_cases hlt2 : k < i
      · obtain ⟨w, ew⟩ := get_of (xs := vs) (k := k) (by omega)
        (focus (refine WP_seq ?_; refine Wr ?_; refine Sm rfl ?_; refine Sm rfl ?_; refine Sc rfl rfl rfl rfl rfl rfl rfl ?_; refine On ?_; refine WP_cond rfl (fun c5_1 => ?_) (fun c5_1 => ?_) <;> (first | (simp [*] at c5_1; done) | (try simp at c5_1)); refine WP_skip ?_; refine then_n ?_; refine WP_seq ?_; refine WP_block ?_; refine WP_seq ?_; refine R_draw (n := 11) mixed rfl ?_; refine A_at 0 rfl rfl ?_; refine A_q (m' := 1) rfl rfl rfl (Q_move rfl rfl) rfl (by decide +kernel) ?_; refine A_at 1 rfl rfl ?_; refine A_q (m' := 3) rfl rfl rfl (Q_move rfl rfl) rfl (by decide +kernel) ?_; refine A_at 2 rfl rfl ?_; refine A_q (m' := 7) rfl rfl rfl (Q_indexS ‹_› ‹_› rfl rfl rfl (elm rfl) rfl) rfl (by decide +kernel) ?_; refine A_at 3 rfl rfl ?_; refine A_q (m' := 15) rfl rfl rfl (Q_fieldAddr rfl rfl (fld rfl rfl)) rfl (by decide +kernel) ?_; refine A_at 4 rfl rfl ?_; refine A_load (m' := 31) rfl rfl rfl rfl rfl rfl (by decide +kernel) ?_; refine L_elF ‹_› ‹_› ?_; rintro _ _ _ ⟨xi5_2, xa5_2, po5_2, qo5_2, ps5_2, qs5_2, pc5_2, qc5_2, pn5_2, qn5_2, pm5_2, qm5_2, xw5_2, xv5_2, pf5_2, qf5_2, pr5_2, qr5_2, xe5_2, xf5_2, rfl, vo5_2, vs5_2, vc5_2, vn5_2, vm5_2, vf5_2, vr5_2⟩; refine LV_1 (ty rfl) rfl ?_; refine A_at 5 rfl rfl ?_; refine A_q (m' := 63) rfl rfl rfl (Q_move rfl rfl) rfl (by decide +kernel) ?_; refine A_at 6 rfl rfl ?_; refine A_q (m' := 127) rfl rfl rfl (Q_move rfl rfl) rfl (by decide +kernel) ?_; refine A_at 7 rfl rfl ?_; refine A_q (m' := 255) rfl rfl rfl (Q_indexS ‹_› ‹_› rfl rfl rfl (elm rfl) rfl) rfl (by decide +kernel) ?_; refine A_at 8 rfl rfl ?_; refine A_q (m' := 511) rfl rfl rfl (Q_fieldAddr rfl rfl (fld rfl rfl)) rfl (by decide +kernel) ?_; refine A_at 9 rfl rfl ?_; refine A_load (m' := 1023) rfl rfl rfl rfl rfl rfl (by decide +kernel) ?_; refine L_elF ‹_› ‹_› ?_; rintro _ _ _ ⟨xi5_3, xa5_3, po5_3, qo5_3, ps5_3, qs5_3, pc5_3, qc5_3, pn5_3, qn5_3, pm5_3, qm5_3, xw5_3, xv5_3, pf5_3, qf5_3, pr5_3, qr5_3, xe5_3, xf5_3, rfl, vo5_3, vs5_3, vc5_3, vn5_3, vm5_3, vf5_3, vr5_3⟩; refine LV_1 (ty rfl) rfl ?_; refine A_at 10 rfl rfl ?_; refine A_q (m' := 2047) rfl rfl rfl (Q_cmp rfl rfl rfl rfl) rfl (by decide +kernel) ?_; refine A_done (by decide +kernel) ?_; refine then_n ?_; refine WP_cond rfl (fun c5_4 => ?_) (fun c5_4 => ?_) <;> (first | (simp [*] at c5_4; done) | (try simp at c5_4)); (focus (refine Wr ?_; refine Sm rfl ?_; refine On ?_; refine WP_ret ?_; refine block_r ?_; refine then_r ?_; refine roundF_r ?_; refine block_r ?_; refine block_r ?_; refine then_r ?_; refine roundF_r ?_; refine block_r ?_; refine then_r ?_)); rotate_left 1; (focus (refine WP_skip ?_; refine block_n ?_; refine then_n ?_; refine R_region ?_; refine Sm rfl ?_; refine S_q rfl rfl rfl (Q_add rfl rfl rfl (by omega)) ?_; refine Sm rfl ?_; refine OPS_nil ?_)); rotate_left 1))
        · refine pret (.inl rfl) rfl ⟨_, _, rfl, rfl, rfl⟩ ?_
          rfl
        · refine roundF_n (k + 1) (by omega) ⟨rfl, by omega, fun j u hj hu => ?_⟩ (by repeat' first | exact sR _ | exact sA _ _ | exact sN _ | apply s2 | apply s1) (by repeat' first | exact trivial | refine ⟨rfl, ?_⟩)
          by_cases e : j = k
          · subst e; rw [ew] at hu; cases hu; exact c5_4
          · exact hne j u (by omega) hu
      have hge : k = i := by omega
      subst hge
      have hnd' := nodup_more ev hnd hne
      (focus (refine WP_seq ?_; refine Wr ?_; refine Sm rfl ?_; refine Sm rfl ?_; refine Sc rfl rfl rfl rfl rfl rfl rfl ?_; refine On ?_; refine WP_cond rfl (fun c6_1 => ?_) (fun c6_1 => ?_) <;> (first | (simp [*] at c6_1; done) | (try simp at c6_1)); refine WP_exit ?_; refine then_e ?_; refine roundF_e ?_; refine block_e ?_; refine block_n ?_; refine then_n ?_; refine R_region ?_; refine S_q rfl rfl rfl (Q_add rfl rfl rfl (by omega)) ?_; refine Sm rfl ?_; refine OPS_nil ?_))
      exact roundF_n (k + 1) (by omega) ⟨rfl, by omega, hnd'⟩ (by repeat' first | exact sR _ | exact sA _ _ | exact sN _ | apply s2 | apply s1) (by repeat' first | exact trivial | refine ⟨rfl, ?_⟩)
    have hge : i = vs.length := by omega
    subst hge
    rw [List.take_length] at hnd
    (focus (refine Wr ?_; refine Sc rfl rfl rfl rfl rfl rfl rfl ?_; refine On ?_; refine WP_seq ?_; refine WP_cond rfl (fun c7_1 => ?_) (fun c7_1 => ?_) <;> (first | (simp [*] at c7_1; done) | (try simp at c7_1)); refine WP_exit ?_; refine then_e ?_; refine roundF_e ?_; refine block_e ?_; refine then_n ?_; refine Wr ?_; refine Sm rfl ?_; refine S_q rfl rfl rfl (Q_conv rfl rfl ⟨_, rfl⟩ rfl) ?_; refine Sm rfl ?_; refine S_q rfl rfl rfl (Q_len rfl rfl rfl rfl rfl rfl) ?_))
    have hat : m % vs.length < vs.length := Nat.mod_lt _ (by omega)
    refine S_q rfl rfl rfl (Q_rem (m := m) (n := vs.length) rfl rfl rfl (IntWalk.i64_in _ (by omega)) rfl (by omega)) ?_
    generalize m % vs.length = k at hat ⊢
    have hT := hs.toV hcv (u := k) (by omega)
    have hF := hs.fromV hcv (u := k) (by omega)
    have hlen2 : ([] ++ vs : List View).length = vs.length := rfl
    have hTl : (List.take k vs).length = k := by rw [List.length_take]; omega
    have hFl : (List.drop k vs).length = vs.length - k := List.length_drop
    have hwl : ([] ++ List.drop k vs ++ List.take k vs : List View).length = vs.length := by simp; omega
    obtain ⟨a, ea⟩ := get_of (xs := ([] ++ List.drop k vs ++ List.take k vs : List View)) (k := 0) (by omega)
    obtain ⟨b, eb⟩ := get_of (xs := ([] ++ List.drop k vs ++ List.take k vs : List View)) (k := vs.length - 1) (by omega)
    (focus (refine Sm rfl ?_; refine On ?_; refine WP_seq ?_; refine R_draw (n := 10) mixed rfl ?_; refine A_at 1 rfl rfl ?_; refine A_q (m' := 2) rfl rfl rfl (Q_move rfl rfl) rfl (by decide +kernel) ?_; refine A_at 2 rfl rfl ?_; refine A_q (m' := 6) rfl rfl rfl (Q_move rfl rfl) rfl (by decide +kernel) ?_; refine A_at 3 rfl rfl ?_; refine A_q (m' := 14) rfl rfl rfl (Q_slFrom rfl rfl (elm rfl) rfl (by omega)) rfl (by decide +kernel) ?_; refine A_at 5 rfl rfl ?_; refine A_qp (m' := 46) rfl rfl rfl (Q_move rfl rfl) rfl (by decide +kernel) ?_; refine A_at 6 rfl rfl ?_; refine A_qp (m' := 110) rfl rfl rfl (Q_move rfl rfl) rfl (by decide +kernel) ?_; refine A_at 7 rfl rfl ?_; refine A_qp (m' := 238) rfl rfl rfl (Q_slTo rfl rfl (elm rfl) rfl (by omega)) rfl (by decide +kernel) ?_; refine A_at 0 rfl rfl ?_; refine A_c (m' := 239) rfl rfl rfl rfl (by decide +kernel) (C_buildSlice rfl (elm rfl) (zer rfl) rfl rfl rfl rfl ?_); intro b8_1; refine A_at 4 rfl rfl ?_; refine A_w (m' := 255) rfl rfl rfl rfl rfl (by decide +kernel) (W_appS [] _ (OS.lit0 _ _ _ _ _) ‹_› rfl rfl rfl rfl rfl rfl (elm rfl) (zer rfl) rfl rfl (by (try simp only [lA]); omega) (by (try simp only [lA]); omega) ?_); rintro p8_2 q8_2 m8_2 o8_2; refine A_at 8 rfl rfl ?_; refine A_w (m' := 511) rfl rfl rfl rfl rfl (by decide +kernel) (W_appS [] _ o8_2 ‹_› rfl rfl rfl rfl rfl rfl (elm rfl) (zer rfl) rfl rfl (by (try simp only [lA]); omega) (by (try simp only [lA]); omega) ?_); rintro p8_3 q8_3 m8_3 o8_3; refine A_at 9 rfl rfl ?_; refine A_q (m' := 1023) rfl rfl rfl (Q_assign rfl rfl) rfl (by decide +kernel) ?_; refine A_done (by decide +kernel) ?_; refine then_n ?_; refine WP_seq ?_; refine R_draw (n := 18) mixed rfl ?_; refine A_at 0 rfl rfl ?_; refine A_q (m' := 1) rfl rfl rfl (Q_move rfl rfl) rfl (by decide +kernel) ?_; refine A_at 1 rfl rfl ?_; refine A_qp (m' := 3) rfl rfl rfl (Q_move rfl rfl) rfl (by decide +kernel) ?_; refine A_at 2 rfl rfl ?_; refine A_qp (m' := 7) rfl rfl rfl (Q_move rfl rfl) rfl (by decide +kernel) ?_; refine A_at 3 rfl rfl ?_; refine A_qp (m' := 15) rfl rfl rfl (Q_len rfl rfl rfl rfl rfl rfl) rfl (by decide +kernel) ?_; refine A_at 4 rfl rfl ?_; refine A_qp (m' := 31) rfl rfl rfl (Q_sub rfl rfl rfl (by omega)) rfl (by decide +kernel) ?_; refine A_at 5 rfl rfl ?_; refine A_q (m' := 63) rfl rfl rfl (Q_move rfl rfl) rfl (by decide +kernel) ?_; refine A_at 6 rfl rfl ?_; refine A_q (m' := 127) rfl rfl rfl (Q_move rfl rfl) rfl (by decide +kernel) ?_; refine A_at 7 rfl rfl ?_; refine A_q (m' := 255) rfl rfl rfl (Q_len rfl rfl rfl rfl rfl rfl) rfl (by decide +kernel) ?_; refine A_at 8 rfl rfl ?_; refine A_q (m' := 511) rfl rfl rfl (Q_sub rfl rfl rfl (by omega)) rfl (by decide +kernel) ?_; refine A_at 9 rfl rfl ?_; refine A_q (m' := 1023) rfl rfl rfl (Q_indexO ‹_› ‹_› rfl rfl rfl (elm rfl) (by omega)) rfl (by decide +kernel) ?_; refine A_at 10 rfl rfl ?_; refine A_load (m' := 2047) rfl rfl rfl rfl rfl rfl (by decide +kernel) ?_; refine L_oelA [] _ ‹_› ‹_› rfl (ty rfl) ?_; rintro _ _ _ ⟨xi8_4, xa8_4, po8_4, qo8_4, ps8_4, qs8_4, pc8_4, qc8_4, pn8_4, qn8_4, pm8_4, qm8_4, xw8_4, xv8_4, pf8_4, qf8_4, pr8_4, qr8_4, xe8_4, xf8_4, rfl, vo8_4, vs8_4, vc8_4, vn8_4, vm8_4, vf8_4, vr8_4⟩; refine A_at 11 rfl rfl ?_; refine A_q (m' := 4095) rfl rfl rfl (Q_move rfl rfl) rfl (by decide +kernel) ?_; refine A_at 12 rfl rfl ?_; refine A_q (m' := 8191) rfl rfl rfl (Q_indexO ‹_› ‹_› rfl rfl rfl (elm rfl) rfl) rfl (by decide +kernel) ?_; refine A_at 13 rfl rfl ?_; refine A_load (m' := 16383) rfl rfl rfl rfl rfl rfl (by decide +kernel) ?_; refine L_oelA [] _ ‹_› ‹_› rfl (ty rfl) ?_; rintro _ _ _ ⟨xi8_5, xa8_5, po8_5, qo8_5, ps8_5, qs8_5, pc8_5, qc8_5, pn8_5, qn8_5, pm8_5, qm8_5, xw8_5, xv8_5, pf8_5, qf8_5, pr8_5, qr8_5, xe8_5, xf8_5, rfl, vo8_5, vs8_5, vc8_5, vn8_5, vm8_5, vf8_5, vr8_5⟩; refine A_at 14 rfl rfl ?_; refine A_q (m' := 32767) rfl rfl rfl (Q_indexO ‹_› ‹_› rfl rfl rfl (elm rfl) rfl) rfl (by decide +kernel) ?_))
    refine A_at 15 rfl rfl ?_
    refine A_w0 (m' := 65535) rfl rfl rfl rfl (by decide +kernel) (W_setO (j := 0) (y := b) [] _ o8_3 (by omega) rfl rfl rfl (ty rfl) rfl ‹_› ⟨by assumption, _, _, _, _, _, _, _, _, _, _, _, _, _, _, _, _, _, _, _, rfl, by assumption, by assumption, by assumption, by assumption, by assumption, by assumption, by assumption⟩ rfl ?_)
    intro M1 hO1
    obtain ⟨c, ec⟩ := get_of (xs := ([] ++ List.drop k vs ++ List.take k vs : List View).set 0 b) (k := vs.length - 1) (by rw [List.length_set]; omega)
    (focus (refine A_at 16 rfl rfl ?_; refine A_q (m' := 131071) rfl rfl rfl (Q_indexO ‹_› ‹_› rfl rfl rfl (elm rfl) (by omega)) rfl (by decide +kernel) ?_))
    refine A_at 17 rfl rfl ?_
    refine A_w0 (m' := 262143) rfl rfl rfl rfl (by decide +kernel) (W_setO (j := vs.length - 1) (y := a) [] _ hO1 (by rw [List.length_set]; omega) rfl rfl rfl (ty rfl) rfl ‹_› ⟨by assumption, _, _, _, _, _, _, _, _, _, _, _, _, _, _, _, _, _, _, _, rfl, by assumption, by assumption, by assumption, by assumption, by assumption, by assumption, by assumption⟩ rfl ?_)
    intro M2 hO2
    have hp : ((([] ++ List.drop k vs ++ List.take k vs : List View).set 0 b).set (vs.length - 1) a).Perm vs := (swap_perm ea eb).trans (rot_perm vs k)
    clear o8_2 o8_3 hO1 ec
    generalize hws : (([] ++ List.drop k vs ++ List.take k vs : List View).set 0 b).set (vs.length - 1) a = ws at hO2 hp
    refine A_done (by decide +kernel) ?_
    refine then_n ?_
    have hwsl := hp.length_eq
    refine WP_keepM [] M2 _ rfl fun h2 hl2 hm2 => ?_
    have hW : SL h2 13 (ViewC 4398046511104) (.slice p8_3 ([] ++ List.drop k vs ++ List.take k vs : List View).length q8_3) ws := hO2.sl hl2 (ViewC_mono _) hm2 (by omega)
    clear hO2 hm2 ea eb hT hF
    (replace hB := hB.up hl2; replace hs := hs.up hl2; replace vo8_4 := vo8_4.up hl2; replace vs8_4 := vs8_4.up hl2; replace vc8_4 := vc8_4.up hl2; replace vn8_4 := vn8_4.up hl2; replace vm8_4 := vm8_4.up hl2; replace vf8_4 := vf8_4.up hl2; replace vr8_4 := vr8_4.up hl2; replace vo8_5 := vo8_5.up hl2; replace vs8_5 := vs8_5.up hl2; replace vc8_5 := vc8_5.up hl2; replace vn8_5 := vn8_5.up hl2; replace vm8_5 := vm8_5.up hl2; replace vf8_5 := vf8_5.up hl2; replace vr8_5 := vr8_5.up hl2)
    have smw := sm.perm hp
    have hvo := viewOf_perm hp hnd
    have e1 := graphR_eq hvo hp
    have e2 := rootsR_eq hvo hp
    have e3 := reachR_eq hvo hp
    have e4 := garbageR_eq hvo hp
    have e5 := safeR_eq hvo hp
    have e6 := agreesB_perm hvo hp
    have hrr := sm.reach
    (focus (refine Wr ?_; refine Sm rfl ?_; refine S_c rfl rfl rfl (C_call (graph_s ‹_› ‹_›) rfl rfl ⟨_, _, rfl, rfl, rfl⟩ (cal rfl) ?_); rintro h11_1 _ l11_1 ⟨_, rfl, pg11_1, qg11_1, rfl, fg11_1⟩; replace hW := hW.up l11_1; replace hB := hB.up l11_1; replace hs := hs.up l11_1; replace vo8_4 := vo8_4.up l11_1; replace vs8_4 := vs8_4.up l11_1; replace vc8_4 := vc8_4.up l11_1; replace vn8_4 := vn8_4.up l11_1; replace vm8_4 := vm8_4.up l11_1; replace vf8_4 := vf8_4.up l11_1; replace vr8_4 := vr8_4.up l11_1; replace vo8_5 := vo8_5.up l11_1; replace vs8_5 := vs8_5.up l11_1; replace vc8_5 := vc8_5.up l11_1; replace vn8_5 := vn8_5.up l11_1; replace vm8_5 := vm8_5.up l11_1; replace vf8_5 := vf8_5.up l11_1; replace vr8_5 := vr8_5.up l11_1; refine Sm rfl ?_; refine S_q rfl rfl rfl (Q_extract rfl rfl rfl) ?_; refine S_q rfl rfl rfl (Q_extract rfl rfl rfl) ?_; refine S_c rfl rfl rfl (C_alloc rfl (zer rfl) ?_); intro b11_2; refine S_w0 rfl rfl (W_all rfl rfl rfl (ty rfl) u0 (by first | rfl | assumption) (by first | rfl | assumption) (by first | rfl | assumption | exact ones_sub ‹_› _ _) ?_); refine Sm rfl ?_; refine On ?_; refine Wr ?_; refine Sm rfl ?_; refine S_c rfl rfl rfl (C_call (graph_s ‹_› ‹_›) rfl rfl ⟨_, _, rfl, rfl, rfl⟩ (cal rfl) ?_); rintro h11_3 _ l11_3 ⟨_, rfl, pg11_3, qg11_3, rfl, fg11_3⟩; replace fg11_1 := fg11_1.up l11_3; replace hW := hW.up l11_3; replace hB := hB.up l11_3; replace hs := hs.up l11_3; replace vo8_4 := vo8_4.up l11_3; replace vs8_4 := vs8_4.up l11_3; replace vc8_4 := vc8_4.up l11_3; replace vn8_4 := vn8_4.up l11_3; replace vm8_4 := vm8_4.up l11_3; replace vf8_4 := vf8_4.up l11_3; replace vr8_4 := vr8_4.up l11_3; replace vo8_5 := vo8_5.up l11_3; replace vs8_5 := vs8_5.up l11_3; replace vc8_5 := vc8_5.up l11_3; replace vn8_5 := vn8_5.up l11_3; replace vm8_5 := vm8_5.up l11_3; replace vf8_5 := vf8_5.up l11_3; replace vr8_5 := vr8_5.up l11_3; refine Sm rfl ?_; refine S_q rfl rfl rfl (Q_extract rfl rfl rfl) ?_; refine S_q rfl rfl rfl (Q_extract rfl rfl rfl) ?_; refine S_c rfl rfl rfl (C_alloc rfl (zer rfl) ?_); intro b11_4; refine S_w0 rfl rfl (W_all rfl rfl rfl (ty rfl) u0 (by first | rfl | assumption) (by first | rfl | assumption) (by first | rfl | assumption | exact ones_sub ‹_› _ _) ?_); refine Sm rfl ?_; refine On ?_; refine WP_seq ?_; refine Wr ?_; refine Sm rfl ?_; refine Sc rfl rfl rfl rfl rfl rfl rfl ?_; refine Sm rfl ?_; refine Sc rfl rfl rfl rfl rfl rfl rfl ?_; refine S_q rfl rfl rfl (Q_bne rfl rfl rfl rfl) ?_; refine Sm rfl ?_; refine S_gsplit rfl rfl rfl rfl (fun c11_5 => ?_) (fun c11_5 => ?_) <;> (first | (simp [*] at c11_5; done) | (try simp at c11_5)); refine S_gload rfl rfl rfl rfl rfl rfl rfl rfl ?_; refine L_agg (Rd.own m1) (ty rfl) (by first | rfl | assumption) ?_; refine S_gload rfl rfl rfl rfl rfl rfl rfl rfl ?_; refine L_agg (Rd.own m0) (ty rfl) (by first | rfl | assumption) ?_; refine S_gc rfl rfl rfl rfl rfl rfl (C_callv (equal_s ⟨_, _, rfl, by assumption⟩ ⟨_, _, rfl, by assumption⟩) rfl rfl ⟨_, _, rfl, ⟨_, _, rfl, rfl, rfl⟩, rfl⟩ (cal rfl) ?_); refine S_gq rfl rfl rfl rfl rfl rfl (Q_not rfl rfl) ?_; refine S_q rfl rfl rfl (Q_pick_f rfl rfl rfl) ?_; refine Sm rfl ?_; refine S_gsplit rfl rfl rfl rfl (fun c11_6 => ?_) (fun c11_6 => ?_) <;> (first | (simp [*] at c11_6; done) | (try simp at c11_6)); refine S_gq rfl rfl rfl rfl rfl rfl (Q_move rfl rfl) ?_; refine S_gc rfl rfl rfl rfl rfl rfl (C_call (roots_s ‹_› ‹_›) rfl rfl ⟨_, _, rfl, rfl, rfl⟩ (cal rfl) ?_); rintro h11_7 _ l11_7 ⟨p11_7, q11_7, rfl, f11_7⟩; replace fg11_3 := fg11_3.up l11_7; replace fg11_1 := fg11_1.up l11_7; replace hW := hW.up l11_7; replace hB := hB.up l11_7; replace hs := hs.up l11_7; replace vo8_4 := vo8_4.up l11_7; replace vs8_4 := vs8_4.up l11_7; replace vc8_4 := vc8_4.up l11_7; replace vn8_4 := vn8_4.up l11_7; replace vm8_4 := vm8_4.up l11_7; replace vf8_4 := vf8_4.up l11_7; replace vr8_4 := vr8_4.up l11_7; replace vo8_5 := vo8_5.up l11_7; replace vs8_5 := vs8_5.up l11_7; replace vc8_5 := vc8_5.up l11_7; replace vn8_5 := vn8_5.up l11_7; replace vm8_5 := vm8_5.up l11_7; replace vf8_5 := vf8_5.up l11_7; replace vr8_5 := vr8_5.up l11_7; refine S_gq rfl rfl rfl rfl rfl rfl (Q_move rfl rfl) ?_; refine S_gc rfl rfl rfl rfl rfl rfl (C_call (roots_s ‹_› ‹_›) rfl rfl ⟨_, _, rfl, rfl, rfl⟩ (cal rfl) ?_); rintro h11_8 _ l11_8 ⟨p11_8, q11_8, rfl, f11_8⟩; replace f11_7 := f11_7.up l11_8; replace fg11_3 := fg11_3.up l11_8; replace fg11_1 := fg11_1.up l11_8; replace hW := hW.up l11_8; replace hB := hB.up l11_8; replace hs := hs.up l11_8; replace vo8_4 := vo8_4.up l11_8; replace vs8_4 := vs8_4.up l11_8; replace vc8_4 := vc8_4.up l11_8; replace vn8_4 := vn8_4.up l11_8; replace vm8_4 := vm8_4.up l11_8; replace vf8_4 := vf8_4.up l11_8; replace vr8_4 := vr8_4.up l11_8; replace vo8_5 := vo8_5.up l11_8; replace vs8_5 := vs8_5.up l11_8; replace vc8_5 := vc8_5.up l11_8; replace vn8_5 := vn8_5.up l11_8; replace vm8_5 := vm8_5.up l11_8; replace vf8_5 := vf8_5.up l11_8; replace vr8_5 := vr8_5.up l11_8; refine S_gc rfl rfl rfl rfl rfl rfl (C_callv (sameIDs_s ‹_› ‹_›) rfl rfl ⟨_, _, rfl, ⟨_, _, rfl, rfl, rfl⟩, rfl⟩ (cal rfl) ?_); refine S_gq rfl rfl rfl rfl rfl rfl (Q_not rfl rfl) ?_; refine S_q rfl rfl rfl (Q_pick_f rfl rfl rfl) ?_; refine Sm rfl ?_; refine S_gsplit rfl rfl rfl rfl (fun c11_9 => ?_) (fun c11_9 => ?_) <;> (first | (simp [*] at c11_9; done) | (try simp at c11_9)); refine S_gq rfl rfl rfl rfl rfl rfl (Q_move rfl rfl) ?_; refine S_gc rfl rfl rfl rfl rfl rfl (C_call (reachable_s ‹_› ‹_›) rfl rfl ⟨_, _, rfl, rfl, rfl⟩ (cal rfl) ?_); rintro h11_10 _ l11_10 ⟨p11_10, q11_10, rfl, f11_10⟩; replace f11_8 := f11_8.up l11_10; replace f11_7 := f11_7.up l11_10; replace fg11_3 := fg11_3.up l11_10; replace fg11_1 := fg11_1.up l11_10; replace hW := hW.up l11_10; replace hB := hB.up l11_10; replace hs := hs.up l11_10; replace vo8_4 := vo8_4.up l11_10; replace vs8_4 := vs8_4.up l11_10; replace vc8_4 := vc8_4.up l11_10; replace vn8_4 := vn8_4.up l11_10; replace vm8_4 := vm8_4.up l11_10; replace vf8_4 := vf8_4.up l11_10; replace vr8_4 := vr8_4.up l11_10; replace vo8_5 := vo8_5.up l11_10; replace vs8_5 := vs8_5.up l11_10; replace vc8_5 := vc8_5.up l11_10; replace vn8_5 := vn8_5.up l11_10; replace vm8_5 := vm8_5.up l11_10; replace vf8_5 := vf8_5.up l11_10; replace vr8_5 := vr8_5.up l11_10; refine S_gq rfl rfl rfl rfl rfl rfl (Q_move rfl rfl) ?_; refine S_gc rfl rfl rfl rfl rfl rfl (C_call (reachable_s ‹_› ‹_›) rfl rfl ⟨_, _, rfl, rfl, rfl⟩ (cal rfl) ?_); rintro h11_11 _ l11_11 ⟨p11_11, q11_11, rfl, f11_11⟩; replace f11_10 := f11_10.up l11_11; replace f11_8 := f11_8.up l11_11; replace f11_7 := f11_7.up l11_11; replace fg11_3 := fg11_3.up l11_11; replace fg11_1 := fg11_1.up l11_11; replace hW := hW.up l11_11; replace hB := hB.up l11_11; replace hs := hs.up l11_11; replace vo8_4 := vo8_4.up l11_11; replace vs8_4 := vs8_4.up l11_11; replace vc8_4 := vc8_4.up l11_11; replace vn8_4 := vn8_4.up l11_11; replace vm8_4 := vm8_4.up l11_11; replace vf8_4 := vf8_4.up l11_11; replace vr8_4 := vr8_4.up l11_11; replace vo8_5 := vo8_5.up l11_11; replace vs8_5 := vs8_5.up l11_11; replace vc8_5 := vc8_5.up l11_11; replace vn8_5 := vn8_5.up l11_11; replace vm8_5 := vm8_5.up l11_11; replace vf8_5 := vf8_5.up l11_11; replace vr8_5 := vr8_5.up l11_11; refine S_gc rfl rfl rfl rfl rfl rfl (C_callv (sameIDs_s ‹_› ‹_›) rfl rfl ⟨_, _, rfl, ⟨_, _, rfl, rfl, rfl⟩, rfl⟩ (cal rfl) ?_); refine S_gq rfl rfl rfl rfl rfl rfl (Q_not rfl rfl) ?_; refine S_q rfl rfl rfl (Q_pick_f rfl rfl rfl) ?_; refine On ?_; refine WP_cond rfl (fun c11_12 => ?_) (fun c11_12 => ?_) <;> (first | (simp [*] at c11_12; done) | (try simp at c11_12)); refine WP_skip ?_; refine then_n ?_))
    (focus (refine WP_keepM [_] [_] _ rfl ?_; rintro h12_k l12_k k12_k; have a12_k := at_of_keep k12_k; clear k12_k; replace f11_11 := f11_11.up l12_k; replace f11_10 := f11_10.up l12_k; replace f11_8 := f11_8.up l12_k; replace f11_7 := f11_7.up l12_k; replace fg11_3 := fg11_3.up l12_k; replace fg11_1 := fg11_1.up l12_k; replace hW := hW.up l12_k; replace hB := hB.up l12_k; replace hs := hs.up l12_k; replace vo8_4 := vo8_4.up l12_k; replace vs8_4 := vs8_4.up l12_k; replace vc8_4 := vc8_4.up l12_k; replace vn8_4 := vn8_4.up l12_k; replace vm8_4 := vm8_4.up l12_k; replace vf8_4 := vf8_4.up l12_k; replace vr8_4 := vr8_4.up l12_k; replace vo8_5 := vo8_5.up l12_k; replace vs8_5 := vs8_5.up l12_k; replace vc8_5 := vc8_5.up l12_k; replace vn8_5 := vn8_5.up l12_k; replace vm8_5 := vm8_5.up l12_k; replace vf8_5 := vf8_5.up l12_k; replace vr8_5 := vr8_5.up l12_k))
    by_cases he : (graphR vs).2 = 0
    · (focus (refine WP_seq ?_; refine R_draw (n := 30) mixed rfl ?_; refine A_at 0 rfl rfl ?_; refine A_q (m' := 1) rfl rfl rfl (Q_move rfl rfl) rfl (fbL (by decide +kernel)) ?_; refine A_at 2 rfl rfl ?_; refine A_q (m' := 5) rfl rfl rfl (Q_move rfl rfl) rfl (fbL (by decide +kernel)) ?_; refine A_at 1 rfl rfl ?_; refine A_c (m' := 7) rfl rfl rfl rfl (by decide +kernel) (C_callv (garbage_s ‹_› ‹_›) rfl rfl ⟨_, _, rfl, rfl, rfl⟩ (cal rfl) ?_); refine A_at 3 rfl rfl ?_; refine A_c (m' := 15) rfl rfl rfl rfl (by decide +kernel) (C_callv (garbage_s ‹_› ‹_›) rfl rfl ⟨_, _, rfl, rfl, rfl⟩ (cal rfl) ?_); refine A_at 4 rfl rfl ?_; refine A_q (m' := 31) rfl rfl rfl (Q_cmp rfl rfl rfl rfl) rfl (fbL (by decide +kernel)) ?_; refine A_at 5 rfl rfl ?_; refine A_q (m' := 63) rfl rfl rfl (Q_move rfl rfl) rfl (fbL (by decide +kernel)) ?_; refine A_at 6 rfl rfl ?_; refine A_gsplit rfl rfl rfl rfl (fun c13_1 => ?_) (fun c13_1 => ?_) <;> (first | (simp [*] at c13_1; done) | (try simp at c13_1)); refine A_at 6 rfl rfl ?_; refine A_gq (m' := 127) rfl rfl rfl rfl rfl rfl (Q_move rfl rfl) rfl (fbL (by decide +kernel)) ?_; refine A_at 7 rfl rfl ?_; refine A_gq (m' := 255) rfl rfl rfl rfl rfl rfl (Q_cmp rfl rfl rfl rfl) rfl (fbL (by decide +kernel)) ?_; refine A_at 8 rfl rfl ?_; refine A_gq (m' := 511) rfl rfl rfl rfl rfl rfl (Q_move rfl rfl) rfl (fbL (by decide +kernel)) ?_; refine A_at 9 rfl rfl ?_; refine A_gsplit rfl rfl rfl rfl (fun c13_2 => ?_) (fun c13_2 => ?_) <;> (first | (simp [*] at c13_2; done) | (try simp at c13_2)); refine A_at 9 rfl rfl ?_; refine A_gq (m' := 1023) rfl rfl rfl rfl rfl rfl (Q_move rfl rfl) rfl (fbL (by decide +kernel)) ?_; refine A_at 11 rfl rfl ?_; refine A_gq (m' := 3071) rfl rfl rfl rfl rfl rfl (Q_move rfl rfl) rfl (fbL (by decide +kernel)) ?_; refine A_at 10 rfl rfl ?_; refine A_gc (m' := 4095) rfl rfl rfl rfl rfl rfl rfl (by decide +kernel) (C_callv (safe_s ‹_› ‹_›) rfl rfl ⟨_, _, rfl, rfl, rfl⟩ (cal rfl) ?_); refine A_at 12 rfl rfl ?_; refine A_gc (m' := 8191) rfl rfl rfl rfl rfl rfl rfl (by decide +kernel) (C_callv (safe_s ‹_› ‹_›) rfl rfl ⟨_, _, rfl, rfl, rfl⟩ (cal rfl) ?_); refine A_at 13 rfl rfl ?_; refine A_gq (m' := 16383) rfl rfl rfl rfl rfl rfl (Q_cmp rfl rfl rfl rfl) rfl (fbL (by decide +kernel)) ?_; refine A_at 14 rfl rfl ?_; refine A_gq (m' := 32767) rfl rfl rfl rfl rfl rfl (Q_move rfl rfl) rfl (fbL (by decide +kernel)) ?_; refine A_at 15 rfl rfl ?_; refine A_gsplit rfl rfl rfl rfl (fun c13_3 => ?_) (fun c13_3 => ?_) <;> (first | (simp [*] at c13_3; done) | (try simp at c13_3)); refine A_at 15 rfl rfl ?_; refine A_gq (m' := 65535) rfl rfl rfl rfl rfl rfl (Q_move rfl rfl) rfl (fbL (by decide +kernel)) ?_; refine A_at 16 rfl rfl ?_; refine A_gload (m' := 131071) rfl rfl rfl rfl rfl rfl rfl rfl rfl (fbL (by decide +kernel)) ?_; refine L_agg (Rd.pers ‹_›) (ty rfl) (by first | rfl | assumption) ?_; refine A_at 17 rfl rfl ?_; refine A_gq (m' := 262143) rfl rfl rfl rfl rfl rfl (Q_move rfl rfl) rfl (fbL (by decide +kernel)) ?_; refine A_at 20 rfl rfl ?_; refine A_gq (m' := 1310719) rfl rfl rfl rfl rfl rfl (Q_move rfl rfl) rfl (fbL (by decide +kernel)) ?_; refine A_at 21 rfl rfl ?_; refine A_gload (m' := 3407871) rfl rfl rfl rfl rfl rfl rfl rfl rfl (fbL (by decide +kernel)) ?_; refine L_agg (Rd.pers ‹_›) (ty rfl) (by first | rfl | assumption) ?_; refine A_at 22 rfl rfl ?_; refine A_gq (m' := 7602175) rfl rfl rfl rfl rfl rfl (Q_move rfl rfl) rfl (fbL (by decide +kernel)) ?_; refine A_at 18 rfl rfl ?_; refine A_gc (m' := 7864319) rfl rfl rfl rfl rfl rfl rfl (by decide +kernel) (C_call (reachable_s ‹_› ‹_›) rfl rfl ⟨_, _, rfl, rfl, rfl⟩ (cal rfl) ?_); rintro h13_4 _ l13_4 ⟨p13_4, q13_4, rfl, f13_4⟩; replace a12_k := a12_k.up l13_4; replace f11_11 := f11_11.up l13_4; replace f11_10 := f11_10.up l13_4; replace f11_8 := f11_8.up l13_4; replace f11_7 := f11_7.up l13_4; replace fg11_3 := fg11_3.up l13_4; replace fg11_1 := fg11_1.up l13_4; replace hW := hW.up l13_4; replace hB := hB.up l13_4; replace hs := hs.up l13_4; replace vo8_4 := vo8_4.up l13_4; replace vs8_4 := vs8_4.up l13_4; replace vc8_4 := vc8_4.up l13_4; replace vn8_4 := vn8_4.up l13_4; replace vm8_4 := vm8_4.up l13_4; replace vf8_4 := vf8_4.up l13_4; replace vr8_4 := vr8_4.up l13_4; replace vo8_5 := vo8_5.up l13_4; replace vs8_5 := vs8_5.up l13_4; replace vc8_5 := vc8_5.up l13_4; replace vn8_5 := vn8_5.up l13_4; replace vm8_5 := vm8_5.up l13_4; replace vf8_5 := vf8_5.up l13_4; replace vr8_5 := vr8_5.up l13_4; refine A_at 19 rfl rfl ?_; refine A_gc (m' := 8388607) rfl rfl rfl rfl rfl rfl rfl (by decide +kernel) (C_callv (agrees_s ‹_› ‹_› ⟨_, _, rfl, by assumption⟩ ‹_› (by omega)) rfl rfl ⟨_, _, rfl, ⟨_, _, rfl, ⟨_, _, rfl, rfl, rfl⟩, rfl⟩, rfl⟩ (cal rfl) ?_); refine A_at 23 rfl rfl ?_; refine A_gc (m' := 16777215) rfl rfl rfl rfl rfl rfl rfl (by decide +kernel) (C_call (reachable_s ‹_› ‹_›) rfl rfl ⟨_, _, rfl, rfl, rfl⟩ (cal rfl) ?_); rintro h13_5 _ l13_5 ⟨p13_5, q13_5, rfl, f13_5⟩; replace f13_4 := f13_4.up l13_5; replace a12_k := a12_k.up l13_5; replace f11_11 := f11_11.up l13_5; replace f11_10 := f11_10.up l13_5; replace f11_8 := f11_8.up l13_5; replace f11_7 := f11_7.up l13_5; replace fg11_3 := fg11_3.up l13_5; replace fg11_1 := fg11_1.up l13_5; replace hW := hW.up l13_5; replace hB := hB.up l13_5; replace hs := hs.up l13_5; replace vo8_4 := vo8_4.up l13_5; replace vs8_4 := vs8_4.up l13_5; replace vc8_4 := vc8_4.up l13_5; replace vn8_4 := vn8_4.up l13_5; replace vm8_4 := vm8_4.up l13_5; replace vf8_4 := vf8_4.up l13_5; replace vr8_4 := vr8_4.up l13_5; replace vo8_5 := vo8_5.up l13_5; replace vs8_5 := vs8_5.up l13_5; replace vc8_5 := vc8_5.up l13_5; replace vn8_5 := vn8_5.up l13_5; replace vm8_5 := vm8_5.up l13_5; replace vf8_5 := vf8_5.up l13_5; replace vr8_5 := vr8_5.up l13_5; refine A_at 24 rfl rfl ?_; refine A_gc (m' := 33554431) rfl rfl rfl rfl rfl rfl rfl (by decide +kernel) (C_callv (agrees_s ‹_› ‹_› ⟨_, _, rfl, by assumption⟩ ‹_› (by omega)) rfl rfl ⟨_, _, rfl, ⟨_, _, rfl, ⟨_, _, rfl, rfl, rfl⟩, rfl⟩, rfl⟩ (cal rfl) ?_); refine A_at 25 rfl rfl ?_; refine A_gq (m' := 67108863) rfl rfl rfl rfl rfl rfl (Q_beq rfl rfl rfl rfl) rfl (fbL (by decide +kernel)) ?_; refine A_at 26 rfl rfl ?_; refine A_gq (m' := 134217727) rfl rfl rfl rfl rfl rfl (Q_pick_t rfl rfl rfl) rfl (fbL (by decide +kernel)) ?_; refine A_at 27 rfl rfl ?_; refine A_gq (m' := 268435455) rfl rfl rfl rfl rfl rfl (Q_pick_f rfl rfl rfl) rfl (fbL (by decide +kernel)) ?_; refine A_at 28 rfl rfl ?_; refine A_q (m' := 536870911) rfl rfl rfl (Q_pick_t rfl rfl rfl) rfl (fbL (by decide +kernel)) ?_; refine A_at 29 rfl rfl ?_; refine A_q (m' := 1073741823) rfl rfl rfl (Q_assign rfl rfl) rfl (fbL (by decide +kernel)) ?_; refine A_done (by decide +kernel) ?_; refine then_n ?_; refine WP_ret ?_))
      refine pret (.inl rfl) rfl ⟨_, _, rfl, rfl, rfl⟩ ?_
      simp only [resOf]; rw [e6]; simp
    · (focus (refine WP_seq ?_; refine R_draw (n := 30) mixed rfl ?_; refine A_at 0 rfl rfl ?_; refine A_q (m' := 1) rfl rfl rfl (Q_move rfl rfl) rfl (fbL (by decide +kernel)) ?_; refine A_at 2 rfl rfl ?_; refine A_q (m' := 5) rfl rfl rfl (Q_move rfl rfl) rfl (fbL (by decide +kernel)) ?_; refine A_at 1 rfl rfl ?_; refine A_c (m' := 7) rfl rfl rfl rfl (by decide +kernel) (C_callv (garbage_s ‹_› ‹_›) rfl rfl ⟨_, _, rfl, rfl, rfl⟩ (cal rfl) ?_); refine A_at 3 rfl rfl ?_; refine A_c (m' := 15) rfl rfl rfl rfl (by decide +kernel) (C_callv (garbage_s ‹_› ‹_›) rfl rfl ⟨_, _, rfl, rfl, rfl⟩ (cal rfl) ?_); refine A_at 4 rfl rfl ?_; refine A_q (m' := 31) rfl rfl rfl (Q_cmp rfl rfl rfl rfl) rfl (fbL (by decide +kernel)) ?_; refine A_at 5 rfl rfl ?_; refine A_q (m' := 63) rfl rfl rfl (Q_move rfl rfl) rfl (fbL (by decide +kernel)) ?_; refine A_at 6 rfl rfl ?_; refine A_gsplit rfl rfl rfl rfl (fun c14_1 => ?_) (fun c14_1 => ?_) <;> (first | (simp [*] at c14_1; done) | (try simp at c14_1)); refine A_at 6 rfl rfl ?_; refine A_gq (m' := 127) rfl rfl rfl rfl rfl rfl (Q_move rfl rfl) rfl (fbL (by decide +kernel)) ?_; refine A_at 7 rfl rfl ?_; refine A_gq (m' := 255) rfl rfl rfl rfl rfl rfl (Q_cmp rfl rfl rfl rfl) rfl (fbL (by decide +kernel)) ?_; refine A_at 8 rfl rfl ?_; refine A_gq (m' := 511) rfl rfl rfl rfl rfl rfl (Q_move rfl rfl) rfl (fbL (by decide +kernel)) ?_; refine A_at 9 rfl rfl ?_; refine A_gsplit rfl rfl rfl rfl (fun c14_2 => ?_) (fun c14_2 => ?_) <;> (first | (simp [*] at c14_2; done) | (try simp at c14_2)); refine A_at 9 rfl rfl ?_; refine A_gn (m' := 1023) rfl rfl rfl rfl rfl rfl rfl (fbL (by decide +kernel)) ?_; refine A_at 10 rfl rfl ?_; refine A_gn (m' := 2047) rfl rfl rfl rfl rfl rfl rfl (fbL (by decide +kernel)) ?_; refine A_at 11 rfl rfl ?_; refine A_gn (m' := 4095) rfl rfl rfl rfl rfl rfl rfl (fbL (by decide +kernel)) ?_; refine A_at 12 rfl rfl ?_; refine A_gn (m' := 8191) rfl rfl rfl rfl rfl rfl rfl (fbL (by decide +kernel)) ?_; refine A_at 13 rfl rfl ?_; refine A_gn (m' := 16383) rfl rfl rfl rfl rfl rfl rfl (fbL (by decide +kernel)) ?_; refine A_at 14 rfl rfl ?_; refine A_gn (m' := 32767) rfl rfl rfl rfl rfl rfl rfl (fbL (by decide +kernel)) ?_; refine A_at 15 rfl rfl ?_; refine A_gu (m' := 65535) rfl rfl rfl rfl rfl rfl rfl (fbL (by decide +kernel)) ?_; refine A_at 16 rfl rfl ?_; refine A_gu (m' := 131071) rfl rfl rfl rfl rfl rfl rfl (fbL (by decide +kernel)) ?_; refine A_at 17 rfl rfl ?_; refine A_gu (m' := 262143) rfl rfl rfl rfl rfl rfl rfl (fbL (by decide +kernel)) ?_; refine A_at 18 rfl rfl ?_; refine A_gu (m' := 524287) rfl rfl rfl rfl rfl rfl rfl (fbL (by decide +kernel)) ?_; refine A_at 19 rfl rfl ?_; refine A_gu (m' := 1048575) rfl rfl rfl rfl rfl rfl rfl (fbL (by decide +kernel)) ?_; refine A_at 20 rfl rfl ?_; refine A_gu (m' := 2097151) rfl rfl rfl rfl rfl rfl rfl (fbL (by decide +kernel)) ?_; refine A_at 21 rfl rfl ?_; refine A_gu (m' := 4194303) rfl rfl rfl rfl rfl rfl rfl (fbL (by decide +kernel)) ?_; refine A_at 22 rfl rfl ?_; refine A_gu (m' := 8388607) rfl rfl rfl rfl rfl rfl rfl (fbL (by decide +kernel)) ?_; refine A_at 23 rfl rfl ?_; refine A_gu (m' := 16777215) rfl rfl rfl rfl rfl rfl rfl (fbL (by decide +kernel)) ?_; refine A_at 24 rfl rfl ?_; refine A_gu (m' := 33554431) rfl rfl rfl rfl rfl rfl rfl (fbL (by decide +kernel)) ?_; refine A_at 25 rfl rfl ?_; refine A_gu (m' := 67108863) rfl rfl rfl rfl rfl rfl rfl (fbL (by decide +kernel)) ?_; refine A_at 26 rfl rfl ?_; refine A_gn (m' := 134217727) rfl rfl rfl rfl rfl rfl rfl (fbL (by decide +kernel)) ?_; refine A_at 27 rfl rfl ?_; refine A_gq (m' := 268435455) rfl rfl rfl rfl rfl rfl (Q_pick_t rfl rfl rfl) rfl (fbL (by decide +kernel)) ?_; refine A_at 28 rfl rfl ?_; refine A_q (m' := 536870911) rfl rfl rfl (Q_pick_t rfl rfl rfl) rfl (fbL (by decide +kernel)) ?_; refine A_at 29 rfl rfl ?_; refine A_q (m' := 1073741823) rfl rfl rfl (Q_assign rfl rfl) rfl (fbL (by decide +kernel)) ?_; refine A_done (by decide +kernel) ?_; refine then_n ?_; refine WP_ret ?_))
      refine pret (.inl rfl) rfl ⟨_, _, rfl, rfl, rfl⟩ ?_
      rfl
  · (focus (refine Wr ?_; refine Sm rfl ?_; refine On ?_; refine WP_seq ?_; refine Wr ?_; refine S_c rfl rfl rfl (C_callv (awake_s) rfl rfl rfl (cal rfl) ?_); refine S_q rfl rfl rfl (Q_not rfl rfl) ?_; refine On ?_; refine cond_f rfl ?_; refine WP_skip ?_; refine then_n ?_; refine WP_seq ?_; refine Wr ?_; refine Sm rfl ?_; refine S_c rfl rfl rfl (C_callv (few_s ‹_›) rfl rfl ⟨_, _, rfl, rfl, rfl⟩ (cal rfl) ?_); refine S_q rfl rfl rfl (Q_not rfl rfl) ?_; refine Sm rfl ?_; refine S_gsplit rfl rfl rfl rfl (fun c15_1 => ?_) (fun c15_1 => ?_) <;> (first | (simp [*] at c15_1; done) | (try simp at c15_1)); refine Sn rfl ?_; refine Sn rfl ?_; refine Sn rfl ?_; refine S_q rfl rfl rfl (Q_pick_t rfl rfl rfl) ?_; refine On ?_; refine cond_t rfl ?_; refine Wr ?_; refine Sm rfl ?_; refine On ?_; refine WP_ret ?_; refine then_r ?_))
    refine pret (.inl rfl) rfl ⟨_, _, rfl, rfl, rfl⟩ ?_
    rfl
end Go.Proofs.YtfhoecgiahpddaaGreat
/-
  HOW THE DATA THAT A ROW SPEAKS OF ARE OPENED: from a value's reading to its cells, in the words of the logic.
-/
set_option linter.all false
namespace Go.Mesh
open Go.RowKit
set_option linter.unusedVariables false
section
variable {H : Type} {enc : TypeId × Value → H} {P : Program} {w : World} {t e : TypeId} {cs : List Value}
def TR (enc : TypeId × Value → H) (P : Program) (w : World) (t : TypeId) (cs : List Value) : Prop := ∃ fuel x, DataW.trod enc P w 0 (fun _ => true) true fuel t cs = some x
/-- the whole heap: nobody writes it -/
def hpOf (w : World) : Frag := fun b => w.heap[b]?
theorem Holds.all (w : World) : Holds (hpOf w) [] w := ⟨⟨fun _ _ e => e, by simp⟩, List.nodup_nil, by simp⟩
theorem TR.int {k : IntKind} (h : TR enc P w t cs) (ht : P.underlying t = some (.int k)) : ∃ n, cs = [.int k n] ∧ (Lit.int k n).wf = true := by
  obtain ⟨_, _, h⟩ := h
  obtain ⟨n, e, _, hw⟩ := DataW.trod_int ht h
  exact ⟨n, e, hw⟩
theorem TR.bool (h : TR enc P w t cs) (ht : P.underlying t = some .bool) : ∃ b, cs = [.bool b] := by
  obtain ⟨_, _, h⟩ := h
  obtain ⟨b, e, _⟩ := DataW.trod_bool ht h
  exact ⟨b, e⟩
theorem TR.str (h : TR enc P w t cs) (ht : P.underlying t = some .string) : ∃ s, cs = [.string s] := by
  obtain ⟨_, _, h⟩ := h
  obtain ⟨s, e, _⟩ := DataW.trod_string ht h
  exact ⟨s, e⟩
/-- the cells of fields that lie side by side -/
def Parts (Q : TypeId → List Value → Prop) : List TypeId → List Value → Prop
  | [], cs => cs = []
  | t :: ts, cs => ∃ a b, cs = a ++ b ∧ Q t a ∧ Parts Q ts b
def tilesB (P : Program) : List Field → Nat → Nat → Bool
  | [], cur, tot => Nat.beq cur tot
  | f :: fs, cur, tot => Nat.beq f.offset cur && tilesB P fs (cur + P.cellsOf f.type) tot
theorem tilesB_le : ∀ (l : List Field) (cur tot : Nat), tilesB P l cur tot = true → cur ≤ tot
  | [], cur, tot, h => Nat.le_of_eq (Nat.eq_of_beq_eq_true h)
  | f :: fs, cur, tot, h => by
    simp only [tilesB, Bool.and_eq_true] at h
    have := tilesB_le fs _ _ h.2
    omega
theorem parts_of {Q : TypeId → List Value → Prop} : ∀ (l : List Field) (cur : Nat), tilesB P l cur cs.length = true → (∀ f, f ∈ l → ((cs.drop f.offset).take (P.cellsOf f.type)).length = P.cellsOf f.type → Q f.type ((cs.drop f.offset).take (P.cellsOf f.type))) →
    Parts Q (l.map (·.type)) (cs.drop cur)
  | [], cur, h, _ => by
    have : cur = cs.length := Nat.eq_of_beq_eq_true h
    simp [Parts, this]
  | f :: fs, cur, h, hq => by
    simp only [tilesB, Bool.and_eq_true] at h
    obtain ⟨h1, h2⟩ := h
    have h1 := Nat.eq_of_beq_eq_true h1
    have hle := tilesB_le fs _ _ h2
    have ih := parts_of fs _ h2 fun g hg => hq g (List.mem_cons_of_mem _ hg)
    refine ⟨(cs.drop cur).take (P.cellsOf f.type), cs.drop (cur + P.cellsOf f.type), ?_, ?_, ih⟩
    · rw [← List.drop_drop, List.take_append_drop]
    · have := hq f (List.mem_cons_self ..)
      rw [h1] at this
      exact this (by rw [List.length_take, List.length_drop]; omega)
theorem TR.struct {fs : Array Field} {tys : List TypeId} (h : TR enc P w t cs) (ht : P.underlying t = some (.struct fs)) (hb : tilesB P fs.toList 0 (P.cellsOf t) = true) (hty : fs.toList.map (·.type) = tys) : cs.length = P.cellsOf t ∧ Parts (fun t a => a.length = P.cellsOf t ∧ TR enc P w t a) tys cs := by
  obtain ⟨_, _, h⟩ := h
  obtain ⟨xs, n, _, _, hl, hx, hf⟩ := DataW.trod_struct ht h
  subst hty
  refine ⟨hl, ?_⟩
  have := parts_of (P := P) (Q := fun t a => a.length = P.cellsOf t ∧ TR enc P w t a) (cs := cs) fs.toList 0 (by rw [hl]; exact hb) fun f hm hlen => ?_
  · simpa using this
  · obtain ⟨i, hi⟩ := List.getElem?_of_mem hm
    have hi' : fs[i]? = some f := by simpa using hi
    have := hf i f hi'
    have hlt : i < xs.length := by rw [hx]; exact (Array.getElem?_eq_some_iff.1 hi').1
    rw [List.getElem?_eq_getElem hlt] at this
    exact ⟨hlen, n, _, this⟩
theorem list_of {α : Type} {Q : Nat → α → Prop} : ∀ n, (∀ i, i < n → ∃ y, Q i y) → ∃ xs : List α, xs.length = n ∧ ∀ (i : Nat) y, xs[i]? = some y → Q i y
  | 0, _ => ⟨[], rfl, by simp⟩
  | n + 1, h => by
    obtain ⟨xs, hl, hx⟩ := list_of n fun i hi => h i (by omega)
    obtain ⟨y, hy⟩ := h n (by omega)
    refine ⟨xs ++ [y], by simp [hl], fun i z hz => ?_⟩
    rw [List.getElem?_append] at hz
    split at hz
    · exact hx i z hz
    · rename_i hge
      have hi : i - xs.length = 0 := by
        have := (List.getElem?_eq_some_iff.1 hz).1
        simp at this; omega
      rw [hi] at hz
      simp at hz
      subst hz
      have : i = n := by omega
      rw [this]; exact hy
theorem TR.slice {α : Type} {C : CR α} {k : Nat} (h : TR enc P w t cs) (ht : P.underlying t = some (.slice e)) (hk : P.cellsOf e = k) (h0 : 0 < k)
    (hel : ∀ cs, TR enc P w e cs → ∃ y, cs.length = k ∧ ones cs = true ∧ C (hpOf w) y cs) : ∃ p c, ∃ xs : List α, cs = [.slice p xs.length c] ∧ SLB 9223372036854775807 (hpOf w) k C (.slice p xs.length c) xs := by
  obtain ⟨_, _, h⟩ := h
  rcases DataW.trod_slice ht h with ⟨rfl, _⟩ | ⟨a, len, cap, elems, rest, n, _, rfl, _, _, hlc, hcm, hel2, hget, _⟩
  · exact ⟨none, 0, [], rfl, by simp, .inl ⟨none, 0, rfl, rfl⟩⟩
  · rw [hk] at hget
    by_cases hz : len = 0
    · subst hz
      exact ⟨some a, cap, [], rfl, by simp, .inl ⟨some a, cap, rfl, rfl⟩⟩
    have hcells : ∀ i, i < len → ∃ y, ∃ us : List Value, us.length = k ∧ ones us = true ∧ C (hpOf w) y us ∧ ∀ j, j < k → w.cell? ((a.add (i * k)).add j) = us[j]? := by
      intro i hi
      have hg := hget i hi
      rw [List.getElem?_eq_getElem (by rw [hel2]; exact hi)] at hg
      cases hc : w.cells? 0 (a.add (i * k)) k with
      | none => rw [hc] at hg; cases hg
      | some us =>
        rw [hc] at hg
        obtain ⟨y, hl, ho, hC⟩ := hel us ⟨n, _, hg⟩
        simp only [World.cells?, Nat.zero_le, if_true] at hc
        exact ⟨y, us, hl, ho, hC, fun j hj => mapM_some_get hc j j (by simp [hj])⟩
    obtain ⟨b, off, spot⟩ := a
    have hsp : spot = none := by
      obtain ⟨y, us, hl, _, _, hc⟩ := hcells 0 (by omega)
      have h00 := hc 0 h0
      rw [List.getElem?_eq_getElem (by omega)] at h00
      have hs := World.cell?_spot h00
      simpa [Addr.add] using hs
    subst hsp
    have hone : ∀ i, i < len → ∃ y, ∃ us : List Value, us.length = k ∧ ones us = true ∧ C (hpOf w) y us ∧ At (hpOf w) b (off + i * k) us := by
      intro i hi
      obtain ⟨y, us, hl, ho, hC, hc⟩ := hcells i hi
      refine ⟨y, us, hl, ho, hC, ?_⟩
      have h00 := hc 0 h0
      rw [List.getElem?_eq_getElem (by omega)] at h00
      simp only [addr_add, World.cell?] at hc h00
      cases hb : w.heap[b]? with
      | none => simp only [hb] at h00; cases h00
      | some ob =>
        simp only [hb] at h00 hc
        cases ob with
        | cells arr ty fz =>
          refine ⟨arr, ty, fz, hb, fun j v hv => ?_⟩
          have := hc j (by rw [← hl]; exact (List.getElem?_eq_some_iff.1 hv).1)
          simp only [Option.isSome_none, Bool.false_eq_true, if_false] at this
          rw [this]; exact hv
        | _ => cases h00
    obtain ⟨xs, hl, hx⟩ := list_of len hone
    refine ⟨some ⟨b, off, none⟩, cap, xs, by rw [hl], by rw [hl]; unfold maxLen at hcm; omega, ?_⟩
    exact .inr ⟨b, off, cap, rfl, fun i y hy => hx i y hy⟩
/-- types of which only the cells' form is asked -/
def flatB (P : Program) : Nat → TypeId → Bool
  | 0, _ => false
  | n + 1, t => match P.underlying t with
    | some (.struct fs) => tilesB P fs.toList 0 (P.cellsOf t) && fs.toList.all fun f => flatB P n f.type
    | some (.array ..) => false
    | some _ => true
    | none => false
theorem ones_parts {Q : TypeId → List Value → Prop} (hq : ∀ t a, Q t a → ones a = true) : ∀ (ts : List TypeId) (cs : List Value), Parts Q ts cs → ones cs = true
  | [], _, e => by cases e; rfl
  | t :: ts, _, ⟨a, b, e, h1, h2⟩ => by subst e; exact ones_append (hq t a h1) (ones_parts hq ts b h2)
theorem TR.ones : ∀ (n : Nat) {t : TypeId} {cs : List Value}, TR enc P w t cs → flatB P n t = true → Mesh.ones cs = true
  | 0, _, _, _, hf => by cases hf
  | n + 1, t, cs, h, hf => by
    unfold flatB at hf
    split at hf
    · rename_i fs hu
      rw [Bool.and_eq_true, List.all_eq_true] at hf
      obtain ⟨_, hp⟩ := TR.struct (tys := fs.toList.map (·.type)) h hu hf.1 rfl
      have hmem : ∀ (ts : List TypeId) (cs : List Value), (∀ t, t ∈ ts → flatB P n t = true) → Parts (fun t a => a.length = P.cellsOf t ∧ TR enc P w t a) ts cs → Mesh.ones cs = true := by
        intro ts
        induction ts with
        | nil => intro cs _ e; cases e; rfl
        | cons t ts ih =>
          rintro _ hall ⟨a, b, rfl, ⟨_, h1⟩, h2⟩
          exact ones_append (TR.ones n h1 (hall t (List.mem_cons_self ..))) (ih b (fun u hu => hall u (List.mem_cons_of_mem _ hu)) h2)
      refine hmem _ _ (fun t ht => ?_) hp
      obtain ⟨f, hfm, rfl⟩ := List.mem_map.1 ht
      exact hf.2 f hfm
    · cases hf
    · rename_i d hns hna hu
      obtain ⟨fuel, x, h⟩ := h
      cases fuel with
      | zero => simp [DataW.trod] at h
      | succ m =>
        unfold DataW.trod at h
        rw [hu] at h
        split at h <;> first | rfl | (cases h; done) | (exfalso; simp_all; done) | skip
    · cases hf
end
end Go.Mesh
/-
  THE PROGRAM's DATA, OPENED: identities, values, nodes, graphs, references, letters, flights, stubs, scions, views.
-/
set_option linter.all false
namespace Go.Proofs.YtfhoecgiahpddaaGreat
open Go.Mesh Go.RowKit
set_option linter.unusedVariables false
set_option maxRecDepth 100000
section
variable {H : Type} {enc : TypeId × Value → H} {w : World} {cs : List Value}
theorem len1 {a : List Value} {n : Nat} (h : a.length = n) (hn : n = 1) : ∃ x, a = [x] := by
  subst hn
  match a, h with
  | [x], _ => exact ⟨x, rfl⟩
theorem len2 {a : List Value} {n : Nat} (h : a.length = n) (hn : n = 2) : ∃ x y, a = [x, y] := by
  subst hn
  match a, h with
  | [x, y], _ => exact ⟨x, y, rfl⟩
theorem len5 {a : List Value} {n : Nat} (h : a.length = n) (hn : n = 5) : ∃ x1 x2 x3 x4 x5, a = [x1, x2, x3, x4, x5] := by
  subst hn
  match a, h with
  | [x1, x2, x3, x4, x5], _ => exact ⟨_, _, _, _, _, rfl⟩
theorem len7 {a : List Value} {n : Nat} (h : a.length = n) (hn : n = 7) : ∃ x1 x2 x3 x4 x5 x6 x7, a = [x1, x2, x3, x4, x5, x6, x7] := by
  subst hn
  match a, h with
  | [x1, x2, x3, x4, x5, x6, x7], _ => exact ⟨_, _, _, _, _, _, _, rfl⟩
theorem len8 {a : List Value} {n : Nat} (h : a.length = n) (hn : n = 8) : ∃ x1 x2 x3 x4 x5 x6 x7 x8, a = [x1, x2, x3, x4, x5, x6, x7, x8] := by
  subst hn
  match a, h with
  | [x1, x2, x3, x4, x5, x6, x7, x8], _ => exact ⟨_, _, _, _, _, _, _, _, rfl⟩
theorem id_of (h : TR enc Tryz.prog w 35 cs) : ∃ y : ID, cs = idc y := by
  obtain ⟨_, a, _, rfl, ⟨_, h1⟩, b, _, rfl, ⟨_, h2⟩, rfl⟩ := h.struct (tys := [3, 3]) Tryz.underlying35 (by kernel_rfl) rfl
  obtain ⟨x, rfl, _⟩ := h1.int Tryz.underlying3
  obtain ⟨y, rfl, _⟩ := h2.int Tryz.underlying3
  exact ⟨(x, y), rfl⟩
theorem val_of (h : TR enc Tryz.prog w 42 cs) : ∃ y : Val, cs.length = 4 ∧ ones cs = true ∧ ValC (hpOf w) y cs := by
  obtain ⟨_, a, _, rfl, ⟨_, h1⟩, b, _, rfl, ⟨_, h2⟩, c, _, rfl, ⟨_, h3⟩, rfl⟩ := h.struct (tys := [3, 2, 35]) Tryz.underlying42 (by kernel_rfl) rfl
  obtain ⟨x, rfl, _⟩ := h1.int Tryz.underlying3
  obtain ⟨y, rfl, _⟩ := h2.int Tryz.underlying2
  obtain ⟨z, rfl⟩ := id_of h3
  exact ⟨(x, y, z), rfl, rfl, rfl⟩
theorem idE_of (h : TR enc Tryz.prog w 35 cs) : ∃ y : ID, cs.length = 2 ∧ ones cs = true ∧ IDC (hpOf w) y cs := by
  obtain ⟨y, rfl⟩ := id_of h
  exact ⟨y, rfl, rfl, rfl⟩
theorem int_of (h : TR enc Tryz.prog w 3 cs) : ∃ y : Int, cs.length = 1 ∧ ones cs = true ∧ IntC (hpOf w) y cs := by
  obtain ⟨x, rfl, _⟩ := h.int Tryz.underlying3
  exact ⟨x, rfl, rfl, rfl⟩
theorem ref_of (h : TR enc Tryz.prog w 76 cs) : ∃ y : Ref, cs.length = 8 ∧ ones cs = true ∧ RefC (hpOf w) y cs := by
  obtain ⟨_, a, _, rfl, ⟨_, h1⟩, b, _, rfl, ⟨_, h2⟩, c, _, rfl, ⟨_, h3⟩, d, _, rfl, ⟨_, h4⟩, e, _, rfl, ⟨_, h5⟩, f, _, rfl, ⟨_, h6⟩, g, _, rfl, ⟨_, h7⟩, rfl⟩ := h.struct (tys := [3, 2, 3, 60, 35, 3, 4]) Tryz.underlying76 (by kernel_rfl) rfl
  obtain ⟨x1, rfl, _⟩ := h1.int Tryz.underlying3
  obtain ⟨x2, rfl, _⟩ := h2.int Tryz.underlying2
  obtain ⟨x3, rfl, _⟩ := h3.int Tryz.underlying3
  obtain ⟨x4, rfl, _⟩ := h4.int Tryz.underlying60
  obtain ⟨x5, rfl⟩ := id_of h5
  obtain ⟨x6, rfl, _⟩ := h6.int Tryz.underlying3
  obtain ⟨x7, rfl⟩ := h7.bool Tryz.underlying4
  exact ⟨⟨x1, x2, x3, x4, x5, x6, x7⟩, rfl, rfl, rfl⟩
theorem node_of (h : TR enc Tryz.prog w 38 cs) : ∃ y : Nd, cs.length = 5 ∧ ones cs = true ∧ NodeC 9223372036854775807 (hpOf w) y cs := by
  obtain ⟨_, a, _, rfl, ⟨_, h1⟩, b, _, rfl, ⟨_, h2⟩, c, _, rfl, ⟨_, h3⟩, d, _, rfl, ⟨_, h4⟩, rfl⟩ := h.struct (tys := [35, 3, 3, 36]) Tryz.underlying38 (by kernel_rfl) rfl
  obtain ⟨x1, rfl⟩ := id_of h1
  obtain ⟨x2, rfl, _⟩ := h2.int Tryz.underlying3
  obtain ⟨x3, rfl, _⟩ := h3.int Tryz.underlying3
  obtain ⟨p, c, xs, rfl, s⟩ := h4.slice (C := ValC) Tryz.underlying36 (by kernel_rfl) (by decide) fun _ => val_of
  exact ⟨⟨x1, x2, x3, xs⟩, rfl, rfl, p, c, rfl, s⟩
theorem graph_of (h : TR enc Tryz.prog w 27 cs) : ∃ y : List Nd, cs.length = 1 ∧ ones cs = true ∧ GraphC 9223372036854775807 (hpOf w) y cs := by
  obtain ⟨_, a, _, rfl, ⟨_, h1⟩, rfl⟩ := h.struct (tys := [25]) Tryz.underlying27 (by kernel_rfl) rfl
  obtain ⟨p, c, xs, rfl, s⟩ := h1.slice (C := NodeC 9223372036854775807) Tryz.underlying25 (by kernel_rfl) (by decide) fun _ => node_of
  exact ⟨xs, rfl, rfl, p, c, rfl, s⟩
theorem letter_of (h : TR enc Tryz.prog w 79 cs) : ∃ y : List Ref, cs.length = 4 ∧ ones cs = true ∧ LetterC 9223372036854775807 (hpOf w) y cs := by
  obtain ⟨_, a, _, rfl, ⟨_, h1⟩, b, _, rfl, ⟨_, h2⟩, c, _, rfl, ⟨_, h3⟩, rfl⟩ := h.struct (tys := [35, 9, 77]) Tryz.underlying79 (by kernel_rfl) rfl
  obtain ⟨x1, rfl⟩ := id_of h1
  obtain ⟨x2, rfl⟩ := h2.str Tryz.underlying9
  obtain ⟨p, c, xs, rfl, s⟩ := h3.slice (C := RefC) Tryz.underlying77 (by kernel_rfl) (by decide) fun _ => ref_of
  exact ⟨xs, rfl, rfl, _, _, _, p, c, rfl, s⟩
theorem stub_of (h : TR enc Tryz.prog w 63 cs) : ∃ y : StubE, cs.length = 12 ∧ ones cs = true ∧ StubC (hpOf w) y cs := by
  have ho := h.ones 5 (by kernel_rfl)
  obtain ⟨_, a, _, rfl, ⟨_, h1⟩, b, _, rfl, ⟨_, h2⟩, c, _, rfl, ⟨_, h3⟩, d, _, rfl, ⟨l4, h4⟩, e, _, rfl, ⟨l5, h5⟩, f, _, rfl, ⟨l6, h6⟩, g, _, rfl, ⟨l7, h7⟩, g8, _, rfl, ⟨_, h8⟩, g9, _, rfl, ⟨_, h9⟩, g10, _, rfl, ⟨l10, h10⟩, rfl⟩ := h.struct (tys := [3, 60, 35, 3, 3, 3, 4, 4, 4, 61]) Tryz.underlying63 (by kernel_rfl) rfl
  obtain ⟨x1, rfl, _⟩ := h1.int Tryz.underlying3
  obtain ⟨x2, rfl, _⟩ := h2.int Tryz.underlying60
  obtain ⟨x3, rfl⟩ := id_of h3
  obtain ⟨x4, rfl⟩ := len1 l4 (by kernel_rfl)
  obtain ⟨x5, rfl⟩ := len1 l5 (by kernel_rfl)
  obtain ⟨x6, rfl⟩ := len1 l6 (by kernel_rfl)
  obtain ⟨x7, rfl⟩ := len1 l7 (by kernel_rfl)
  obtain ⟨x8, rfl⟩ := h8.bool Tryz.underlying4
  obtain ⟨x9, rfl⟩ := h9.bool Tryz.underlying4
  obtain ⟨x10, x11, rfl⟩ := len2 l10 (by kernel_rfl)
  exact ⟨⟨x1, x2, x3, x8, x9⟩, rfl, ho, _, _, _, _, _, _, rfl⟩
theorem scion_of (h : TR enc Tryz.prog w 128 cs) : ∃ y : ScionE, cs.length = 12 ∧ ones cs = true ∧ ScionC (hpOf w) y cs := by
  have ho := h.ones 5 (by kernel_rfl)
  obtain ⟨_, a, _, rfl, ⟨_, h1⟩, b, _, rfl, ⟨_, h2⟩, c, _, rfl, ⟨_, h3⟩, d, _, rfl, ⟨l4, h4⟩, e, _, rfl, ⟨l5, h5⟩, f, _, rfl, ⟨l6, h6⟩, g, _, rfl, ⟨l7, h7⟩, g8, _, rfl, ⟨l8, h8⟩, g9, _, rfl, ⟨l9, h9⟩, g10, _, rfl, ⟨l10, h10⟩, rfl⟩ := h.struct (tys := [3, 60, 35, 3, 3, 3, 4, 4, 4, 61]) Tryz.underlying128 (by kernel_rfl) rfl
  obtain ⟨x1, rfl, _⟩ := h1.int Tryz.underlying3
  obtain ⟨x2, rfl, _⟩ := h2.int Tryz.underlying60
  obtain ⟨x3, rfl⟩ := id_of h3
  obtain ⟨x4, rfl⟩ := len1 l4 (by kernel_rfl)
  obtain ⟨x5, rfl⟩ := len1 l5 (by kernel_rfl)
  obtain ⟨x6, rfl⟩ := len1 l6 (by kernel_rfl)
  obtain ⟨x7, rfl⟩ := len1 l7 (by kernel_rfl)
  obtain ⟨x8, rfl⟩ := len1 l8 (by kernel_rfl)
  obtain ⟨x9, rfl⟩ := len1 l9 (by kernel_rfl)
  obtain ⟨x10, x11, rfl⟩ := len2 l10 (by kernel_rfl)
  exact ⟨⟨x1, x2, x3⟩, rfl, ho, _, _, _, _, _, _, _, _, rfl⟩
theorem named_of (h : TR enc Tryz.prog w 106 cs) : ∃ y : ID, cs.length = 3 ∧ ones cs = true ∧ NamedC (hpOf w) y cs := by
  obtain ⟨_, a, _, rfl, ⟨_, h1⟩, b, _, rfl, ⟨_, h2⟩, rfl⟩ := h.struct (tys := [9, 35]) Tryz.underlying106 (by kernel_rfl) rfl
  obtain ⟨x1, rfl⟩ := h1.str Tryz.underlying9
  obtain ⟨x2, rfl⟩ := id_of h2
  exact ⟨x2, rfl, rfl, _, rfl⟩
theorem mail_of (h : TR enc Tryz.prog w 74 cs) : ∃ y : MailE, cs.length = 6 ∧ ones cs = true ∧ MailC 9223372036854775807 (hpOf w) y cs := by
  obtain ⟨_, a, _, rfl, ⟨_, h1⟩, b, _, rfl, ⟨_, h2⟩, c, _, rfl, ⟨_, h3⟩, d, _, rfl, ⟨_, h4⟩, rfl⟩ := h.struct (tys := [35, 35, 9, 36]) Tryz.underlying74 (by kernel_rfl) rfl
  obtain ⟨x1, rfl⟩ := id_of h1
  obtain ⟨x2, rfl⟩ := id_of h2
  obtain ⟨x3, rfl⟩ := h3.str Tryz.underlying9
  obtain ⟨p, c, xs, rfl, s⟩ := h4.slice (C := ValC) Tryz.underlying36 (by kernel_rfl) (by decide) fun _ => val_of
  exact ⟨⟨x2, xs⟩, rfl, rfl, _, _, _, p, c, rfl, s⟩
theorem flight_of (h : TR enc Tryz.prog w 93 cs) : ∃ y : Flight, cs.length = 41 ∧ ones cs = true ∧ FlightC 9223372036854775807 (hpOf w) y cs := by
  have ho := h.ones 9 (by kernel_rfl)
  obtain ⟨_, a, _, rfl, ⟨_, h1⟩, b, _, rfl, ⟨_, h2⟩, c, _, rfl, ⟨_, hm⟩, rfl⟩ := h.struct (tys := [3, 3, 91]) Tryz.underlying93 (by kernel_rfl) rfl
  obtain ⟨_, a, _, rfl, ⟨_, m1⟩, b, _, rfl, ⟨_, m2⟩, c, _, rfl, ⟨l3, m3⟩, d, _, rfl, ⟨l4, m4⟩, e, _, rfl, ⟨_, m5⟩, f, _, rfl, ⟨_, m6⟩, g, _, rfl, ⟨_, m7⟩, g8, _, rfl, ⟨l8, m8⟩, g9, _, rfl, ⟨l9, m9⟩, g10, _, rfl, ⟨l10, m10⟩, rfl⟩ := hm.struct (tys := [3, 60, 3, 9, 76, 79, 83, 61, 86, 89]) Tryz.underlying91 (by kernel_rfl) rfl
  obtain ⟨_, a, _, rfl, ⟨_, p1⟩, b, _, rfl, ⟨_, p2⟩, c, _, rfl, ⟨_, p3⟩, d, _, rfl, ⟨_, p4⟩, e, _, rfl, ⟨_, p5⟩, f, _, rfl, ⟨_, p6⟩, g, _, rfl, ⟨lw, p7⟩, rfl⟩ := m7.struct (tys := [60, 35, 3, 3, 77, 80, 81]) Tryz.underlying83 (by kernel_rfl) rfl
  obtain ⟨to, rfl, _⟩ := h1.int Tryz.underlying3
  obtain ⟨seq, rfl, _⟩ := h2.int Tryz.underlying3
  obtain ⟨kd, rfl, _⟩ := m1.int Tryz.underlying3
  obtain ⟨nu, rfl, _⟩ := m2.int Tryz.underlying60
  obtain ⟨a1, rfl⟩ := len1 l3 (by kernel_rfl)
  obtain ⟨a2, rfl⟩ := len1 l4 (by kernel_rfl)
  obtain ⟨rf, _, _, hr⟩ := ref_of m5
  cases hr
  obtain ⟨lt, _, _, b1, b2, b3, pa, qa, rfl, sa⟩ := letter_of m6
  obtain ⟨pn, rfl, _⟩ := p1.int Tryz.underlying60
  obtain ⟨pi, rfl⟩ := id_of p2
  obtain ⟨pk, rfl, _⟩ := p3.int Tryz.underlying3
  obtain ⟨pc, rfl, _⟩ := p4.int Tryz.underlying3
  obtain ⟨pf, qf, fs, rfl, sf⟩ := p5.slice (C := RefC) Tryz.underlying77 (by kernel_rfl) (by decide) fun _ => ref_of
  obtain ⟨pm, qm, ms, rfl, sm⟩ := p6.slice (C := LetterC 9223372036854775807) Tryz.underlying80 (by kernel_rfl) (by decide) fun _ => letter_of
  obtain ⟨wv, rfl⟩ := len1 lw (by kernel_rfl)
  obtain ⟨y1, y2, rfl⟩ := len2 l8 (by kernel_rfl)
  obtain ⟨y3, y4, y5, y6, y7, y8, y9, y10, rfl⟩ := len8 l9 (by kernel_rfl)
  obtain ⟨z1, z2, z3, z4, z5, rfl⟩ := len5 l10 (by kernel_rfl)
  exact ⟨⟨to, seq, ⟨kd, nu, rf, lt, ⟨pn, pi, pk, pc, fs, ms⟩⟩⟩, rfl, ho, a1, a2, b1, b2, b3, pa, qa, pf, qf, pm, qm, wv, y1, y2, y3, y4, y5, y6, y7, y8, y9, y10, z1, z2, z3, z4, z5, rfl, sa, sf, sm⟩
theorem wf_i64 {n : Int} (h : (Lit.int .i64 n).wf = true) : inI64 n := by
  simp [Lit.wf, IntKind.min, IntKind.max, IntKind.signed, IntKind.bits] at h
  unfold inI64; omega
theorem view_of (h : TR enc Tryz.prog w 57 cs) : ∃ y : View, cs.length = 13 ∧ ones cs = true ∧ ViewC 9223372036854775807 (hpOf w) y cs := by
  have ho := h.ones 12 (by kernel_rfl)
  obtain ⟨_, a, _, rfl, ⟨_, h1⟩, b, _, rfl, ⟨l2, h2⟩, c, _, rfl, ⟨_, h3⟩, d, _, rfl, ⟨_, h4⟩, e, _, rfl, ⟨_, h5⟩, f, _, rfl, ⟨_, h6⟩, g, _, rfl, ⟨_, h7⟩, g8, _, rfl, ⟨l8, h8⟩, g9, _, rfl, ⟨l9, h9⟩, g10, _, rfl, ⟨_, h10⟩, g11, _, rfl, ⟨_, h11⟩, g12, _, rfl, ⟨l12, h12⟩, g13, _, rfl, ⟨l13, h13⟩, rfl⟩ :=
    h.struct (tys := [3, 3, 27, 50, 51, 52, 53, 54, 31, 55, 46, 3, 3]) Tryz.underlying57 (by kernel_rfl) rfl
  obtain ⟨m, rfl, hw⟩ := h1.int Tryz.underlying3
  obtain ⟨md, rfl⟩ := len1 l2 (by kernel_rfl)
  obtain ⟨g, _, _, po, co, rfl, s1⟩ := graph_of h3
  obtain ⟨ps, qs, st, rfl, s2⟩ := h4.slice (C := StubC) Tryz.underlying50 (by kernel_rfl) (by decide) fun _ => stub_of
  obtain ⟨pc, qc, sc, rfl, s3⟩ := h5.slice (C := ScionC) Tryz.underlying51 (by kernel_rfl) (by decide) fun _ => scion_of
  obtain ⟨pn, qn, nm, rfl, s4⟩ := h6.slice (C := NamedC) Tryz.underlying52 (by kernel_rfl) (by decide) fun _ => named_of
  obtain ⟨pm, qm, ml, rfl, s5⟩ := h7.slice (C := MailC 9223372036854775807) Tryz.underlying53 (by kernel_rfl) (by decide) fun _ => mail_of
  obtain ⟨w1, rfl⟩ := len1 l8 (by kernel_rfl)
  obtain ⟨w2, rfl⟩ := len1 l9 (by kernel_rfl)
  obtain ⟨pf, qf, fl, rfl, s6⟩ := h10.slice (C := FlightC 9223372036854775807) Tryz.underlying55 (by kernel_rfl) (by decide) fun _ => flight_of
  obtain ⟨pr, qr, rv, rfl, s7⟩ := h11.slice (C := IntC) Tryz.underlying46 (by kernel_rfl) (by decide) fun _ => int_of
  obtain ⟨e1, rfl⟩ := len1 l12 (by kernel_rfl)
  obtain ⟨e2, rfl⟩ := len1 l13 (by kernel_rfl)
  exact ⟨⟨m, g, st, sc, nm, ml, fl, rv⟩, rfl, ho, wf_i64 hw, md, po, co, ps, qs, pc, qc, pn, qn, pm, qm, w1, w2, pf, qf, pr, qr, e1, e2, rfl, s1, s2, s3, s4, s5, s6, s7⟩
/-- an identity -/
theorem idv_of {v : Value} {d : DataW H} {ps : List MemPlace} {r : Go.Reach} {b0 : Nat} (hval : Value.okWide Tryz.prog w r b0 35 v) (h : DataW.Trod enc Tryz.prog w 0 (fun _ => true) true 35 v d ps) : ∃ id : ID, v = .agg (idc id).toArray := by
  obtain ⟨cs, rfl, _⟩ := Go.WideShapes.okWide_struct Tryz.underlying35 hval
  obtain ⟨fuel, hf⟩ := h
  have ht : TR enc Tryz.prog w 35 cs.toList := ⟨fuel, _, hf⟩
  obtain ⟨y, hy⟩ := id_of ht
  exact ⟨y, by rw [← hy]⟩
/-- the argument of the laws -/
theorem views_of {v : Value} {d : DataW H} {ps : List MemPlace} {r : Go.Reach} {b0 : Nat} (hval : Value.okWide Tryz.prog w r b0 22 v) (h : DataW.Trod enc Tryz.prog w 0 (fun _ => true) true 22 v d ps) : ∃ vs : List View, SLB 9223372036854775807 (hpOf w) 13 (ViewC 9223372036854775807) v vs := by
  obtain ⟨a, len, cap, rfl⟩ := Go.WideShapes.okWide_slice Tryz.underlying22 hval
  obtain ⟨fuel, hf⟩ := h
  have ht : TR enc Tryz.prog w 22 [.slice a len cap] := ⟨fuel, _, hf⟩
  obtain ⟨p, c, xs, e, s⟩ := ht.slice (C := ViewC 9223372036854775807) Tryz.underlying22 (by kernel_rfl) (by decide) fun _ => view_of
  cases e
  exact ⟨xs, s⟩
end
end Go.Proofs.YtfhoecgiahpddaaGreat
/-
  FROM A CONTRACT TO A ROW's STEP: what was in memory is as it was; the arguments read as they did.
-/
set_option linter.all false
namespace Go.Mesh
open Go.RowKit
section
variable {H : Type} {enc : TypeId × Value → H} {P : Program} {W W' : World}
/-- the old blocks are as they were -/
structure Same (W W' : World) : Prop where
  os : W'.os = W.os
  output : W'.output = W.output
  block : ∀ b, b < W.heap.size → W'.heap[b]? = W.heap[b]?
theorem Same.kept (x : Same W W') (may : MemPlace → Prop) : W.keptBut W' may := by
  refine ⟨x.os, x.output, fun i hi => ?_⟩
  have hk := (World.keptBut_refl W may).2.2 i hi
  rw [x.block i hi]
  exact hk
theorem Same.at (x : Same W W') {p : MemPlace} (hp : p.block < W.heap.size) : W.sameAt W' p := by
  cases p with
  | cell b off => simp only [World.sameAt, World.cell?]; rw [x.block b hp]
  | map b => exact x.block b hp
theorem TrodAll_same (hl : laidOutB P = true) (x : Same W W') {sp : Nat → Bool} : ∀ (ts : List TypeId) (vs : List Value) (ds : List (DataW H)) (ps : List MemPlace), (∀ t, t ∈ ts → P.readableRec t = true ∧ t < P.types.size) →
    DataW.TrodAll enc P W 0 (fun _ => true) true ts vs ds ps → (∀ p, p ∈ ps → p.block < W.heap.size) → (∀ p, p ∈ ps → sp p.block = true) → DataW.TrodAll enc P W' 0 sp true ts vs ds ps
  | [], [], [], ps, _, h, _, _ => h
  | t :: ts, v :: vs, d :: ds, ps, hr, h, hlt, hs => by
    obtain ⟨p, q, h1, h2, rfl⟩ := h
    obtain ⟨hr1, hr2⟩ := hr t (List.mem_cons_self ..)
    refine ⟨p, q, WideElems.Trod_stays hl hr1 hr2 h1 (fun y hy => x.at (hlt y (List.mem_append_left _ hy))) (fun y hy => hs y (List.mem_append_left _ hy)), ?_, rfl⟩
    exact TrodAll_same hl x ts vs ds q (fun u hu => hr u (List.mem_cons_of_mem _ hu)) h2 (fun y hy => hlt y (List.mem_append_right _ hy)) (fun y hy => hs y (List.mem_append_right _ hy))
theorem calls_of_pspec {f : FuncId} {args : Array Value} {v : Value} (x : PSpec P f args (hpOf W) (fun _ u => u = v)) : Calls P f args W fun e W' => e = .returned v ∧ Same W W' := by
  refine (x W (Holds.all W)).mono ?_
  rintro e W' ⟨u, h', L', rfl, ⟨_, rfl⟩, y⟩
  exact ⟨rfl, y.os, y.output, fun b hb => y.frame b hb (by simp [ids])⟩
/-- what a law that returns true leaves -/
theorem law_post {f : Func} {s : ChangeSpec} {args : Array Value} {ds gs : List (DataW H)} {before : List MemPlace} (hl : laidOutB P = true) (hr : ∀ t, t ∈ f.params.toList → P.readableRec t = true ∧ t < P.types.size)
    (hvars : s.vars = []) (hW : DataW.Whole enc P f.params.toList s.vars false W args.toList ds gs before) (hfn : (s.fn H (ds ++ gs)).results = [.lit (.bool true)] ∧ (s.fn H (ds ++ gs)).args = ds ∧ (s.fn H (ds ++ gs)).vars = []) (hb : P.underlying 4 = some .bool) (hres : f.resultTypes = #[4])
    (x : Same W W') : s.post enc P f false true false false W args (.bool true) W' := by
  have hlt := fun p hp => hW.lt p hp
  obtain ⟨h1, h2, h3⟩ := hfn
  have hW' := hW
  obtain ⟨p, q, hA, hV, rfl, hfz, hnd⟩ := hW
  have hq : q = [] := by
    rw [hvars] at hV
    cases gs with
    | nil => exact hV
    | cons g gs => exact hV.elim
  subst hq
  refine ⟨ds, gs, p ++ [], [], p, [], hW', ?_, ?_, ?_, x.kept _, fun h => by cases h⟩
  · rw [h1, hres]
    exact trodAll_cons_mk (p' := []) (shut_bool hb true) rfl
  · rw [h2]
    exact TrodAll_same hl x _ _ _ _ hr hA (fun y hy => hlt y (by simpa using hy)) (fun y hy => by simpa using hlt y (by simpa using hy))
  · rw [h3, hvars]; rfl
end
end Go.Mesh
/-
  ARGUMENTS, OPENED FURTHER: a slice's capacity; an unsigned byte.
-/
set_option linter.all false
namespace Go.Proofs.YtfhoecgiahpddaaGreat
open Go.Mesh Go.RowKit Go.ChangeShapes
set_option linter.unusedVariables false
set_option maxRecDepth 100000
section
variable {H : Type} {enc : TypeId × Value → H} {w : World}
theorem TR.cap {P : Program} {t e : TypeId} {p : Option Addr} {n c : Nat} (h : TR enc P w t [.slice p n c]) (ht : P.underlying t = some (.slice e)) : n ≤ c := by
  obtain ⟨_, _, h⟩ := h
  rcases DataW.trod_slice ht h with ⟨e1, _⟩ | ⟨a, len, cap, elems, rest, n', _, e1, _, _, hlc, hcm, hel2, hget, _⟩
  · cases e1; exact Nat.le_refl _
  · cases e1; exact hlc
theorem viewsC_of {v : Value} {d : DataW H} {ps : List MemPlace} {r : Go.Reach} {b0 : Nat} (hval : Value.okWide Tryz.prog w r b0 22 v) (h : DataW.Trod enc Tryz.prog w 0 (fun _ => true) true 22 v d ps) :
    ∃ (p : Option Addr) (c : Nat) (vs : List View), v = .slice p vs.length c ∧ vs.length ≤ c ∧ SLB 9223372036854775807 (hpOf w) 13 (ViewC 9223372036854775807) (.slice p vs.length c) vs := by
  obtain ⟨a, len, cap, rfl⟩ := Go.WideShapes.okWide_slice Tryz.underlying22 hval
  obtain ⟨fuel, hf⟩ := h
  have ht : TR enc Tryz.prog w 22 [.slice a len cap] := ⟨fuel, _, hf⟩
  have hc := TR.cap ht Tryz.underlying22
  obtain ⟨p, c, xs, e, s⟩ := ht.slice (C := ViewC 9223372036854775807) Tryz.underlying22 (by kernel_rfl) (by decide) fun _ => view_of
  cases e
  exact ⟨_, _, xs, rfl, hc, s⟩
theorem u8_of {v : Value} {d : DataW H} {ps : List MemPlace} {r : Go.Reach} {b0 : Nat} (hval : Value.okWide Tryz.prog w r b0 5 v) (h : DataW.Trod enc Tryz.prog w 0 (fun _ => true) true 5 v d ps) : ∃ m : Nat, m ≤ 255 ∧ v = .int .u8 (m : Int) := by
  obtain ⟨n, rfl, -⟩ := open_int Tryz.underlying5 hval h
  obtain ⟨fuel, hf⟩ := h
  have ht : TR enc Tryz.prog w 5 [.int .u8 n] := ⟨fuel, _, hf⟩
  obtain ⟨m, e, hw⟩ := ht.int Tryz.underlying5
  cases e
  simp [Lit.wf, IntKind.min, IntKind.max, IntKind.signed, IntKind.bits] at hw
  exact ⟨n.toNat, by omega, by rw [Int.toNat_of_nonneg (by omega)]⟩
end
end Go.Proofs.YtfhoecgiahpddaaGreat
/- For every list of views and byte: ObserverOrder returns true and leaves its arguments as they were. No condition. -/
set_option linter.all false
namespace Go.Proofs.YtfhoecgiahpddaaGreat
open Go.Mesh Go.RowKit Go.ChangeShapes Go.WideShapes Go.ChangeAt
set_option linter.unusedVariables false
theorem order7_own : ownKnob Tryz.prog.godebug = none := by kernel_rfl
theorem order7_laid : laidOutB Tryz.prog = true := by kernel_rfl
set_option maxRecDepth 100000 in
theorem order7_lifted (os : Os) (started : os.Started) (H : Type) (enc : TypeId × Value → H) :
    ReturnsInHanded {} Tryz.checked os 7 .any (Rows.observerOrderSpec.pre6 enc Tryz.prog Tryz.f7 Rows.observerOrderRow.domain false) (Rows.observerOrderSpec.post enc Tryz.prog Tryz.f7 false true false false) := by
  refine returnsInHanded_of_change (C := Tryz.checked) order7_own started (by kernel_rfl) Tryz.func7
    (ChangeSpec.witness6 (enc := enc) (C := Tryz.checked) false ⟨#[], #[.slice none 0 0, .int .u8 0], []⟩ 8 (by kernel_rfl) (by kernel_rfl) (by kernel_rfl) (by kernel_rfl)) ?_
  intro W base args ds gs before hval0 hW hcnd _
  have hval : ∀ (j : Nat) t v, Tryz.f7.params[j]? = some t → args[j]? = some v → Value.okWide Tryz.prog W .any base t v := hval0
  have hW' := hW
  obtain ⟨p, q, hA0, hV, rfl, hfz, hnd⟩ := hW
  have hA : DataW.TrodAll enc Tryz.prog W 0 (fun _ => true) true Tryz.f7.params.toList args.toList ds p := hA0
  rw [Tryz.params7] at hA hval
  obtain ⟨v0, vs0, d0, ds0, p0, q0, hargs, rfl, rfl, h0, r0⟩ := trodAll_cons hA
  obtain ⟨v1, vs1, d1, ds1, p1, q1, rfl, rfl, rfl, h1, r1⟩ := trodAll_cons r0
  obtain ⟨rfl, rfl, rfl⟩ := trodAll_nil r1
  obtain rfl : args = #[v0, v1] := by cases args; simp_all
  obtain ⟨rfl, rfl⟩ := trodVars_none hV
  obtain ⟨pv, cv, vs, rfl, hcv, hs⟩ := viewsC_of (hval 0 22 v0 rfl rfl) h0
  obtain ⟨m, hm, rfl⟩ := u8_of (hval 1 5 v1 rfl rfl) h1
  refine (calls_of_pspec (lawOrder_s hs hcv hm)).mono fun e W' ⟨he, hg⟩ => ?_
  subst he
  refine ⟨_, rfl, law_post order7_laid ?_ rfl hW' ⟨rfl, rfl, rfl⟩ Tryz.underlying4 (by kernel_rfl) hg⟩
  rw [Tryz.params7]
  intro t ht
  have : t = 22 ∨ t = 5 := by simpa using ht
  rcases this with rfl | rfl
  all_goals exact ⟨by kernel_rfl, of_decide_eq_true (by kernel_rfl)⟩
theorem order7_over : Rows.observerOrderRow.holds Tryz.pinned (OpenSpec.ofChange Rows.observerOrderSpec) :=
  OpenClaim.holds_of_wide 7 Tryz.f7 rfl rfl rfl rfl rfl rfl rfl ⟨rfl, rfl, rfl, rfl, rfl⟩ rfl rfl rfl rfl rfl (by kernel_rfl) Tryz.func7 (by kernel_rfl)
    (of_decide_eq_true (by kernel_rfl)) (by unfold Func.isWrapper; first | (rw [if_pos (by decide +kernel)]; kernel_rfl) | (rw [if_neg (by decide +kernel)]; exact ⟨rfl, rfl⟩))
    (fun os started H enc _ => order7_lifted os started H enc)
theorem observerOrder_holds : Rows.ObserverOrderSaid := order7_over
#print axioms observerOrder_holds
end Go.Proofs.YtfhoecgiahpddaaGreat
