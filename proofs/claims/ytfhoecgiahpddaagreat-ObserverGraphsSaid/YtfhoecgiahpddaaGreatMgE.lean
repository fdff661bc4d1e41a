/- For every list of views: ObserverGraphs returns true and leaves its argument as it was. No condition. -/
import Derived.ChangeArms
import Derived.ChangeReads
import Derived.WideShapes
import Derived.Test.YtfhoecgiahpddaaGreatChecked
import Derived.KernelRfl
import Derived.Test.YtfhoecgiahpddaaGreatRows
import Derived.WalkKit
import Derived.ProofKit
import Derived.OpenShut
import Derived.Carry
import Derived.Test.YtfhoecgiahpddaaGreatMgA
import Derived.Test.YtfhoecgiahpddaaGreatMgB
import Derived.Test.YtfhoecgiahpddaaGreatMgC
import Derived.Test.YtfhoecgiahpddaaGreatMgD
/-
  CONTRACTS: an identity put into a list by the reference (refmeshref16.putID, refmeshref21.Put).
-/
set_option linter.all false
namespace Go.Proofs.YtfhoecgiahpddaaGreat
open Go.Mesh Go.RowKit
set_option maxRecDepth 100000
set_option linter.unusedVariables false
set_option maxHeartbeats 4000000
attribute [local irreducible] WP OPS ANY ANYo LG LV FSpec PSpec QOP OPc OPw thenQ blockQ roundQ roundF retQ retM Rd At SLB OS cmpI orI cmpID namedB valB nodeB kindB validG valAux idxI findG zeroV viewOf vwAt idxOf recv flyB scionOf moveOf numberedOf idOf valueOf mget mput localB carriedB msgB sizesB smallV fewB stubOf followF followOf flOf flightsOf flPre setL minusL compactL putI mergeN insN insAll unionR NMap Coll retN bodyS GMap Dfs refsV refsOf reachL movedOf movedG graphParts graphR isMove flightIDs mailIDs viewIDs rawRoots rootsR refFl refMoved
theorem putI_lt {l : List ID} {x y : ID} {k : Nat} (hx : l[k]? = some y) (hc : cmpID y x < 0) (ht : putI l x = l.take k ++ putI (l.drop k) x) : putI l x = l.take (k + 1) ++ putI (l.drop (k + 1)) x := by
  rw [drop_get hx, putI, if_pos hc] at ht
  rw [ht, List.take_add_one, hx]; simp
theorem putI_eq {l : List ID} {x y : ID} {k : Nat} (hx : l[k]? = some y) (hc : ¬ cmpID y x < 0) (he : y = x) (ht : putI l x = l.take k ++ putI (l.drop k) x) : putI l x = l := by
  rw [drop_get hx, putI, if_neg hc, if_pos he] at ht
  rw [ht, ← drop_get hx, List.take_append_drop]
theorem putI_ne {l : List ID} {x y : ID} {k : Nat} (hx : l[k]? = some y) (hc : ¬ cmpID y x < 0) (he : ¬ y = x) (ht : putI l x = l.take k ++ putI (l.drop k) x) : putI l x = l.take k ++ [x] ++ l.drop k := by
  rw [drop_get hx, putI, if_neg hc, if_neg he] at ht
  rw [ht, drop_get hx]; simp
theorem putI_end {l : List ID} {x : ID} (ht : putI l x = l.take l.length ++ putI (l.drop l.length) x) : putI l x = l.take l.length ++ [x] ++ l.drop l.length := by
  rw [ht]; simp [putI]
theorem putID_s {h : Frag} {p : Option Addr} {c : Nat} {l : List ID} {x : ID} (hs : SL h 2 IDC (.slice p l.length c) l) (hc : l.length ≤ c) (hb : l.length ≤ 2000000) : PSpec Tryz.prog 101 #[.slice p l.length c, .agg (idc x).toArray] h
    (fun h' v => ∃ p' c', v = .slice p' (putI l x).length c' ∧ SL h' 2 IDC (.slice p' (putI l x).length c') (putI l x) ∧ (putI l x).length ≤ c') := by
  obtain ⟨x1, x2⟩ := x
  refine pspec_of (vs := [.slice p l.length c, .agg (idc (x1, x2)).toArray]) Tryz.func101 Tryz.ntmps101 rfl rfl ?_
  (focus (refine Wr ?_; refine S_c rfl rfl rfl (C_box rfl rfl ?_); intro b0_1; refine Sm rfl ?_; refine On ?_; refine Wr ?_; refine Sm rfl ?_; refine On ?_; refine WP_seq ?_; refine WP_block ?_))
  (focus (refine WP_keepM [] [_] _ rfl ?_; rintro h1_k l1_k k1_k; have a1_k := at_of_keep k1_k; clear k1_k; replace hs := hs.up l1_k))
  (refine WP_loopC (α := Nat) [3, 0] (fun (k : Nat) => l.length - k) (fun (k : Nat) => [(5, .int .i64 k)]) (fun hh (k : Nat) => hh = h1_k ∧ k ≤ l.length ∧ putI l (x1, x2) = l.take k ++ putI (l.drop k) (x1, x2)) 0 ⟨_, _, rfl, ⟨_, _, rfl, rfl, rfl⟩, rfl⟩ (by repeat' first | exact trivial | refine ⟨rfl, ?_⟩) ?_ ?_)
  · exact ⟨rfl, Nat.zero_le _, by simp⟩
  rintro h1 k _ ⟨rfl, hk, ht⟩
  by_cases hlt : k < l.length
  · obtain ⟨⟨y1, y2⟩, ex⟩ := get_of hlt
    by_cases hm : cmpID (y1, y2) (x1, x2) < 0
    · (focus (refine WP_seq ?_; refine WP_seq ?_; refine R_draw (n := 13) mixed rfl ?_; refine A_at 0 rfl rfl ?_; refine A_q (m' := 1) rfl rfl rfl (Q_move rfl rfl) rfl (by decide +kernel) ?_; refine A_at 1 rfl rfl ?_; refine A_q (m' := 3) rfl rfl rfl (Q_move rfl rfl) rfl (by decide +kernel) ?_; refine A_at 2 rfl rfl ?_; refine A_q (m' := 7) rfl rfl rfl (Q_len rfl rfl rfl rfl rfl rfl) rfl (by decide +kernel) ?_; refine A_at 3 rfl rfl ?_; refine A_q (m' := 15) rfl rfl rfl (Q_cmp rfl rfl rfl rfl) rfl (by decide +kernel) ?_; refine A_at 4 rfl rfl ?_; refine A_q (m' := 31) rfl rfl rfl (Q_move rfl rfl) rfl (by decide +kernel) ?_; refine A_at 5 rfl rfl ?_; refine A_gsplit rfl rfl rfl rfl (fun c3_1 => ?_) (fun c3_1 => ?_) <;> (first | (simp [*] at c3_1; done) | (try simp at c3_1)); refine A_at 5 rfl rfl ?_; refine A_gq (m' := 63) rfl rfl rfl rfl rfl rfl (Q_move rfl rfl) rfl (by decide +kernel) ?_; refine A_at 6 rfl rfl ?_; refine A_gq (m' := 127) rfl rfl rfl rfl rfl rfl (Q_move rfl rfl) rfl (by decide +kernel) ?_; refine A_at 7 rfl rfl ?_; refine A_gq (m' := 255) rfl rfl rfl rfl rfl rfl (Q_indexS ‹_› ‹_› rfl rfl rfl (elm rfl) rfl) rfl (by decide +kernel) ?_; refine A_at 8 rfl rfl ?_; refine A_gload (m' := 511) rfl rfl rfl rfl rfl rfl rfl rfl rfl (by decide +kernel) ?_; refine L_elA ‹_› ‹_› (ty rfl) ?_; rintro _ _ _ rfl; refine A_at 9 rfl rfl ?_; refine A_gload (m' := 1023) rfl rfl rfl rfl rfl rfl rfl rfl rfl (by decide +kernel) ?_; refine L_agg (Rd.pers ‹_›) (ty rfl) (by first | rfl | assumption) ?_; refine A_at 10 rfl rfl ?_; refine A_gc (m' := 2047) rfl rfl rfl rfl rfl rfl rfl (by decide +kernel) (C_callv (refCmp16_s _ (_, _) (_, _)) rfl rfl ⟨_, _, rfl, ⟨_, _, rfl, rfl, rfl⟩, rfl⟩ (cal rfl) ?_); refine A_at 11 rfl rfl ?_; refine A_gq (m' := 4095) rfl rfl rfl rfl rfl rfl (Q_cmp rfl rfl rfl rfl) rfl (by decide +kernel) ?_; refine A_at 12 rfl rfl ?_; refine A_q (m' := 8191) rfl rfl rfl (Q_pick_t rfl rfl rfl) rfl (by decide +kernel) ?_; refine A_done (by decide +kernel) ?_; refine then_n ?_; refine WP_cond rfl (fun c3_3 => ?_) (fun c3_3 => ?_) <;> (first | (simp [*] at c3_3; done) | (try simp at c3_3)); refine WP_skip ?_; refine then_n ?_; refine WP_block ?_; refine R_region ?_; refine Sm rfl ?_; refine S_q rfl rfl rfl (Q_add rfl rfl rfl (by omega)) ?_; refine Sm rfl ?_; refine OPS_nil ?_; refine block_n ?_))
      exact roundF_n (k + 1) (by omega) ⟨rfl, by omega, putI_lt ex hm ht⟩ (by repeat' first | exact sR _ | exact sA _ _ | exact sN _ | apply s2 | apply s1) (by repeat' first | exact trivial | refine ⟨rfl, ?_⟩)
    by_cases he : (y1, y2) = (x1, x2)
    · have hr := putI_eq ex hm he ht
      (focus (refine WP_seq ?_; refine WP_seq ?_; refine R_draw (n := 13) mixed rfl ?_; refine A_at 0 rfl rfl ?_; refine A_q (m' := 1) rfl rfl rfl (Q_move rfl rfl) rfl (by decide +kernel) ?_; refine A_at 1 rfl rfl ?_; refine A_q (m' := 3) rfl rfl rfl (Q_move rfl rfl) rfl (by decide +kernel) ?_; refine A_at 2 rfl rfl ?_; refine A_q (m' := 7) rfl rfl rfl (Q_len rfl rfl rfl rfl rfl rfl) rfl (by decide +kernel) ?_; refine A_at 3 rfl rfl ?_; refine A_q (m' := 15) rfl rfl rfl (Q_cmp rfl rfl rfl rfl) rfl (by decide +kernel) ?_; refine A_at 4 rfl rfl ?_; refine A_q (m' := 31) rfl rfl rfl (Q_move rfl rfl) rfl (by decide +kernel) ?_; refine A_at 5 rfl rfl ?_; refine A_gsplit rfl rfl rfl rfl (fun c4_1 => ?_) (fun c4_1 => ?_) <;> (first | (simp [*] at c4_1; done) | (try simp at c4_1)); refine A_at 5 rfl rfl ?_; refine A_gq (m' := 63) rfl rfl rfl rfl rfl rfl (Q_move rfl rfl) rfl (by decide +kernel) ?_; refine A_at 6 rfl rfl ?_; refine A_gq (m' := 127) rfl rfl rfl rfl rfl rfl (Q_move rfl rfl) rfl (by decide +kernel) ?_; refine A_at 7 rfl rfl ?_; refine A_gq (m' := 255) rfl rfl rfl rfl rfl rfl (Q_indexS ‹_› ‹_› rfl rfl rfl (elm rfl) rfl) rfl (by decide +kernel) ?_; refine A_at 8 rfl rfl ?_; refine A_gload (m' := 511) rfl rfl rfl rfl rfl rfl rfl rfl rfl (by decide +kernel) ?_; refine L_elA ‹_› ‹_› (ty rfl) ?_; rintro _ _ _ rfl; refine A_at 9 rfl rfl ?_; refine A_gload (m' := 1023) rfl rfl rfl rfl rfl rfl rfl rfl rfl (by decide +kernel) ?_; refine L_agg (Rd.pers ‹_›) (ty rfl) (by first | rfl | assumption) ?_; refine A_at 10 rfl rfl ?_; refine A_gc (m' := 2047) rfl rfl rfl rfl rfl rfl rfl (by decide +kernel) (C_callv (refCmp16_s _ (_, _) (_, _)) rfl rfl ⟨_, _, rfl, ⟨_, _, rfl, rfl, rfl⟩, rfl⟩ (cal rfl) ?_); refine A_at 11 rfl rfl ?_; refine A_gq (m' := 4095) rfl rfl rfl rfl rfl rfl (Q_cmp rfl rfl rfl rfl) rfl (by decide +kernel) ?_; refine A_at 12 rfl rfl ?_; refine A_q (m' := 8191) rfl rfl rfl (Q_pick_t rfl rfl rfl) rfl (by decide +kernel) ?_; refine A_done (by decide +kernel) ?_; refine then_n ?_; refine WP_cond rfl (fun c4_3 => ?_) (fun c4_3 => ?_) <;> (first | (simp [*] at c4_3; done) | (try simp at c4_3)); (focus (exfalso; omega)); (focus (refine WP_exit ?_; refine then_e ?_; refine roundF_e ?_; refine block_e ?_; refine then_n ?_; refine WP_seq ?_; refine WP_seq ?_; refine R_draw (n := 12) mixed rfl ?_; refine A_at 0 rfl rfl ?_; refine A_q (m' := 1) rfl rfl rfl (Q_move rfl rfl) rfl (by decide +kernel) ?_; refine A_at 1 rfl rfl ?_; refine A_q (m' := 3) rfl rfl rfl (Q_move rfl rfl) rfl (by decide +kernel) ?_; refine A_at 2 rfl rfl ?_; refine A_q (m' := 7) rfl rfl rfl (Q_len rfl rfl rfl rfl rfl rfl) rfl (by decide +kernel) ?_; refine A_at 3 rfl rfl ?_; refine A_q (m' := 15) rfl rfl rfl (Q_cmp rfl rfl rfl rfl) rfl (by decide +kernel) ?_; refine A_at 4 rfl rfl ?_; refine A_q (m' := 31) rfl rfl rfl (Q_move rfl rfl) rfl (by decide +kernel) ?_; refine A_at 5 rfl rfl ?_; refine A_gsplit rfl rfl rfl rfl (fun c4_4 => ?_) (fun c4_4 => ?_) <;> (first | (simp [*] at c4_4; done) | (try simp at c4_4)); refine A_at 5 rfl rfl ?_; refine A_gq (m' := 63) rfl rfl rfl rfl rfl rfl (Q_move rfl rfl) rfl (by decide +kernel) ?_; refine A_at 6 rfl rfl ?_; refine A_gq (m' := 127) rfl rfl rfl rfl rfl rfl (Q_move rfl rfl) rfl (by decide +kernel) ?_; refine A_at 7 rfl rfl ?_; refine A_gq (m' := 255) rfl rfl rfl rfl rfl rfl (Q_indexS ‹_› ‹_› rfl rfl rfl (elm rfl) rfl) rfl (by decide +kernel) ?_; refine A_at 8 rfl rfl ?_; refine A_gload (m' := 511) rfl rfl rfl rfl rfl rfl rfl rfl rfl (by decide +kernel) ?_; refine L_elA ‹_› ‹_› (ty rfl) ?_; rintro _ _ _ rfl; refine A_at 9 rfl rfl ?_; refine A_gload (m' := 1023) rfl rfl rfl rfl rfl rfl rfl rfl rfl (by decide +kernel) ?_; refine L_agg (Rd.pers ‹_›) (ty rfl) (by first | rfl | assumption) ?_; refine A_at 10 rfl rfl ?_; refine A_gq (m' := 2047) rfl rfl rfl rfl rfl rfl (Q_eqI eqID rfl rfl rfl rfl rfl) rfl (by decide +kernel) ?_; refine A_at 11 rfl rfl ?_; refine A_q (m' := 4095) rfl rfl rfl (Q_pick_t rfl rfl rfl) rfl (by decide +kernel) ?_; refine A_done (by decide +kernel) ?_; refine then_n ?_; refine WP_cond rfl (fun c4_6 => ?_) (fun c4_6 => ?_) <;> (first | (simp [*] at c4_6; done) | (try simp at c4_6)); refine Wr ?_; refine Sm rfl ?_; refine Sm rfl ?_; refine On ?_; refine WP_ret ?_; refine then_r ?_)); rotate_left 1))
      rw [hr]
      all_goals refine pret (.inl rfl) rfl ⟨_, _, rfl, rfl, rfl⟩ ?_
      all_goals exact ⟨_, _, rfl, hs, hc⟩
    have hr := putI_ne ex hm he ht
    have hT := hs.toV hc (u := k) (by omega)
    have hF := hs.fromV hc (u := k) (by omega)
    have hlen : ([] ++ l : List ID).length = l.length := rfl
    have hTl : (List.take k l).length = k := by rw [List.length_take]; omega
    have hFl : (List.drop k l).length ≤ l.length := by rw [List.length_drop]; omega
    (focus (refine WP_seq ?_; refine WP_seq ?_; refine R_draw (n := 13) mixed rfl ?_; refine A_at 0 rfl rfl ?_; refine A_q (m' := 1) rfl rfl rfl (Q_move rfl rfl) rfl (by decide +kernel) ?_; refine A_at 1 rfl rfl ?_; refine A_q (m' := 3) rfl rfl rfl (Q_move rfl rfl) rfl (by decide +kernel) ?_; refine A_at 2 rfl rfl ?_; refine A_q (m' := 7) rfl rfl rfl (Q_len rfl rfl rfl rfl rfl rfl) rfl (by decide +kernel) ?_; refine A_at 3 rfl rfl ?_; refine A_q (m' := 15) rfl rfl rfl (Q_cmp rfl rfl rfl rfl) rfl (by decide +kernel) ?_; refine A_at 4 rfl rfl ?_; refine A_q (m' := 31) rfl rfl rfl (Q_move rfl rfl) rfl (by decide +kernel) ?_; refine A_at 5 rfl rfl ?_; refine A_gsplit rfl rfl rfl rfl (fun c5_1 => ?_) (fun c5_1 => ?_) <;> (first | (simp [*] at c5_1; done) | (try simp at c5_1)); refine A_at 5 rfl rfl ?_; refine A_gq (m' := 63) rfl rfl rfl rfl rfl rfl (Q_move rfl rfl) rfl (by decide +kernel) ?_; refine A_at 6 rfl rfl ?_; refine A_gq (m' := 127) rfl rfl rfl rfl rfl rfl (Q_move rfl rfl) rfl (by decide +kernel) ?_; refine A_at 7 rfl rfl ?_; refine A_gq (m' := 255) rfl rfl rfl rfl rfl rfl (Q_indexS ‹_› ‹_› rfl rfl rfl (elm rfl) rfl) rfl (by decide +kernel) ?_; refine A_at 8 rfl rfl ?_; refine A_gload (m' := 511) rfl rfl rfl rfl rfl rfl rfl rfl rfl (by decide +kernel) ?_; refine L_elA ‹_› ‹_› (ty rfl) ?_; rintro _ _ _ rfl; refine A_at 9 rfl rfl ?_; refine A_gload (m' := 1023) rfl rfl rfl rfl rfl rfl rfl rfl rfl (by decide +kernel) ?_; refine L_agg (Rd.pers ‹_›) (ty rfl) (by first | rfl | assumption) ?_; refine A_at 10 rfl rfl ?_; refine A_gc (m' := 2047) rfl rfl rfl rfl rfl rfl rfl (by decide +kernel) (C_callv (refCmp16_s _ (_, _) (_, _)) rfl rfl ⟨_, _, rfl, ⟨_, _, rfl, rfl, rfl⟩, rfl⟩ (cal rfl) ?_); refine A_at 11 rfl rfl ?_; refine A_gq (m' := 4095) rfl rfl rfl rfl rfl rfl (Q_cmp rfl rfl rfl rfl) rfl (by decide +kernel) ?_; refine A_at 12 rfl rfl ?_; refine A_q (m' := 8191) rfl rfl rfl (Q_pick_t rfl rfl rfl) rfl (by decide +kernel) ?_; refine A_done (by decide +kernel) ?_; refine then_n ?_; refine WP_cond rfl (fun c5_3 => ?_) (fun c5_3 => ?_) <;> (first | (simp [*] at c5_3; done) | (try simp at c5_3)); refine WP_exit ?_; refine then_e ?_; refine roundF_e ?_; refine block_e ?_; refine then_n ?_; refine WP_seq ?_; refine WP_seq ?_; refine R_draw (n := 12) mixed rfl ?_; refine A_at 0 rfl rfl ?_; refine A_q (m' := 1) rfl rfl rfl (Q_move rfl rfl) rfl (by decide +kernel) ?_; refine A_at 1 rfl rfl ?_; refine A_q (m' := 3) rfl rfl rfl (Q_move rfl rfl) rfl (by decide +kernel) ?_; refine A_at 2 rfl rfl ?_; refine A_q (m' := 7) rfl rfl rfl (Q_len rfl rfl rfl rfl rfl rfl) rfl (by decide +kernel) ?_; refine A_at 3 rfl rfl ?_; refine A_q (m' := 15) rfl rfl rfl (Q_cmp rfl rfl rfl rfl) rfl (by decide +kernel) ?_; refine A_at 4 rfl rfl ?_; refine A_q (m' := 31) rfl rfl rfl (Q_move rfl rfl) rfl (by decide +kernel) ?_; refine A_at 5 rfl rfl ?_; refine A_gsplit rfl rfl rfl rfl (fun c5_4 => ?_) (fun c5_4 => ?_) <;> (first | (simp [*] at c5_4; done) | (try simp at c5_4)); refine A_at 5 rfl rfl ?_; refine A_gq (m' := 63) rfl rfl rfl rfl rfl rfl (Q_move rfl rfl) rfl (by decide +kernel) ?_; refine A_at 6 rfl rfl ?_; refine A_gq (m' := 127) rfl rfl rfl rfl rfl rfl (Q_move rfl rfl) rfl (by decide +kernel) ?_; refine A_at 7 rfl rfl ?_; refine A_gq (m' := 255) rfl rfl rfl rfl rfl rfl (Q_indexS ‹_› ‹_› rfl rfl rfl (elm rfl) rfl) rfl (by decide +kernel) ?_; refine A_at 8 rfl rfl ?_; refine A_gload (m' := 511) rfl rfl rfl rfl rfl rfl rfl rfl rfl (by decide +kernel) ?_; refine L_elA ‹_› ‹_› (ty rfl) ?_; rintro _ _ _ rfl; refine A_at 9 rfl rfl ?_; refine A_gload (m' := 1023) rfl rfl rfl rfl rfl rfl rfl rfl rfl (by decide +kernel) ?_; refine L_agg (Rd.pers ‹_›) (ty rfl) (by first | rfl | assumption) ?_; refine A_at 10 rfl rfl ?_; refine A_gq (m' := 2047) rfl rfl rfl rfl rfl rfl (Q_eqI eqID rfl rfl rfl rfl rfl) rfl (by decide +kernel) ?_; refine A_at 11 rfl rfl ?_; refine A_q (m' := 4095) rfl rfl rfl (Q_pick_t rfl rfl rfl) rfl (by decide +kernel) ?_; refine A_done (by decide +kernel) ?_; refine then_n ?_; refine WP_cond rfl (fun c5_6 => ?_) (fun c5_6 => ?_) <;> (first | (simp [*] at c5_6; done) | (try simp at c5_6)); refine WP_skip ?_; refine then_n ?_; refine WP_seq ?_; refine R_draw (n := 13) mixed rfl ?_; refine A_at 1 rfl rfl ?_; refine A_q (m' := 2) rfl rfl rfl (Q_move rfl rfl) rfl (by decide +kernel) ?_; refine A_at 2 rfl rfl ?_; refine A_q (m' := 6) rfl rfl rfl (Q_move rfl rfl) rfl (by decide +kernel) ?_; refine A_at 3 rfl rfl ?_; refine A_q (m' := 14) rfl rfl rfl (Q_slTo rfl rfl (elm rfl) rfl (by omega)) rfl (by decide +kernel) ?_; refine A_at 5 rfl rfl ?_; refine A_loadp (m' := 46) rfl rfl rfl rfl rfl rfl (by decide +kernel) ?_; refine L_agg (Rd.pers ‹_›) (ty rfl) (by first | rfl | assumption) ?_; refine A_at 8 rfl rfl ?_; refine A_qp (m' := 302) rfl rfl rfl (Q_move rfl rfl) rfl (by decide +kernel) ?_; refine A_at 9 rfl rfl ?_; refine A_qp (m' := 814) rfl rfl rfl (Q_move rfl rfl) rfl (by decide +kernel) ?_; refine A_at 10 rfl rfl ?_; refine A_qp (m' := 1838) rfl rfl rfl (Q_slFrom rfl rfl (elm rfl) rfl (by omega)) rfl (by decide +kernel) ?_; refine A_two 0 6 (mi := 1839) (mj := 1902) rfl rfl (by decide +kernel) rfl rfl ?_ ?_; (focus (refine T_at rfl ?_; refine T_cO rfl rfl rfl (C_buildSlice rfl (elm rfl) (zer rfl) rfl rfl rfl rfl ?_); intro b5_7; refine A_two 4 6 (mi := 1855) (mj := 1903) rfl rfl (by decide +kernel) rfl rfl ?_ ?_; (focus (refine T_at rfl ?_; refine T_wO rfl rfl rfl rfl (W_appS [] _ (OS.lit0 _ _ _ _ _) ‹_› rfl rfl rfl rfl rfl rfl (elm rfl) (zer rfl) rfl rfl (by (try simp only [lA]); omega) (by (try simp only [lA]); omega) ?_); rintro p5_8 q5_8 m5_8 o5_8; refine A_at 6 rfl rfl ?_; refine A_c (m' := 1919) rfl rfl rfl rfl (by decide +kernel) (C_buildSlice rfl (elm rfl) (zer rfl) rfl ⟨_, _, _, rfl, rfl, rfl, rfl, rfl, rfl⟩ rfl rfl ?_); intro b5_9; refine A_at 7 rfl rfl ?_; refine A_w (m' := 2047) rfl rfl rfl rfl rfl (by decide +kernel) (W_app1 [] _ o5_8 rfl rfl rfl rfl rfl rfl (elm rfl) (zer rfl) rfl rfl rfl rfl rfl (by (try simp only [lA]); omega) (by (try simp only [lA]); omega) ?_); rintro p5_10 q5_10 m5_10 o5_10; refine A_at 11 rfl rfl ?_; refine A_w (m' := 4095) rfl rfl rfl rfl rfl (by decide +kernel) (W_appS [] _ o5_10 ‹_› rfl rfl rfl rfl rfl rfl (elm rfl) (zer rfl) rfl rfl (by (try simp only [lA]); omega) (by (try simp only [lA]); omega) ?_); rintro p5_11 q5_11 m5_11 o5_11; refine A_at 12 rfl rfl ?_; refine A_q (m' := 8191) rfl rfl rfl (Q_assign rfl rfl) rfl (by decide +kernel) ?_; refine A_done (by decide +kernel) ?_; refine then_n ?_; refine WP_ret ?_)); rotate_left 1; (focus (refine T_at rfl ?_; refine T_cO rfl rfl rfl (C_buildSlice rfl (elm rfl) (zer rfl) rfl ⟨_, _, _, rfl, rfl, rfl, rfl, rfl, rfl⟩ rfl rfl ?_); intro b5_12; refine A_at 4 rfl rfl ?_; refine A_w (m' := 1919) rfl rfl rfl rfl rfl (by decide +kernel) (W_appS [_] _ (OS.lit0 _ _ _ _ _) ‹_› rfl rfl rfl rfl rfl rfl (elm rfl) (zer rfl) rfl rfl (by (try simp only [lA]); omega) (by (try simp only [lA]); omega) ?_); rintro p5_13 q5_13 m5_13 o5_13; refine A_at 7 rfl rfl ?_; refine A_w (m' := 2047) rfl rfl rfl rfl rfl (by decide +kernel) (W_app1 [] _ o5_13 rfl rfl rfl rfl rfl rfl (elm rfl) (zer rfl) rfl rfl rfl rfl rfl (by (try simp only [lA]); omega) (by (try simp only [lA]); omega) ?_); rintro p5_14 q5_14 m5_14 o5_14; refine A_at 11 rfl rfl ?_; refine A_w (m' := 4095) rfl rfl rfl rfl rfl (by decide +kernel) (W_appS [] _ o5_14 ‹_› rfl rfl rfl rfl rfl rfl (elm rfl) (zer rfl) rfl rfl (by (try simp only [lA]); omega) (by (try simp only [lA]); omega) ?_); rintro p5_15 q5_15 m5_15 o5_15; refine A_at 12 rfl rfl ?_; refine A_q (m' := 8191) rfl rfl rfl (Q_assign rfl rfl) rfl (by decide +kernel) ?_; refine A_done (by decide +kernel) ?_; refine then_n ?_; refine WP_ret ?_)); rotate_left 1)); rotate_left 2; (focus (refine T_at rfl ?_; refine T_cO rfl rfl rfl (C_buildSlice rfl (elm rfl) (zer rfl) rfl ⟨_, _, _, rfl, rfl, rfl, rfl, rfl, rfl⟩ rfl rfl ?_); intro b5_16; refine A_at 0 rfl rfl ?_; refine A_c (m' := 1903) rfl rfl rfl rfl (by decide +kernel) (C_buildSlice rfl (elm rfl) (zer rfl) rfl rfl rfl rfl ?_); intro b5_17; refine A_at 4 rfl rfl ?_; refine A_w (m' := 1919) rfl rfl rfl rfl rfl (by decide +kernel) (W_appS [] _ (OS.lit0 _ _ _ _ _) ‹_› rfl rfl rfl rfl rfl rfl (elm rfl) (zer rfl) rfl rfl (by (try simp only [lA]); omega) (by (try simp only [lA]); omega) ?_); rintro p5_18 q5_18 m5_18 o5_18; refine A_at 7 rfl rfl ?_; refine A_w (m' := 2047) rfl rfl rfl rfl rfl (by decide +kernel) (W_app1b (y := (_, _)) [] _ o5_18 rfl rfl rfl rfl rfl rfl (elm rfl) (zer rfl) rfl rfl rfl rfl rfl (by (try simp only [lA]); omega) (by (try simp only [lA]); omega) ?_); rintro p5_19 q5_19 m5_19 o5_19; refine A_at 11 rfl rfl ?_; refine A_w (m' := 4095) rfl rfl rfl rfl rfl (by decide +kernel) (W_appS [] _ o5_19 ‹_› rfl rfl rfl rfl rfl rfl (elm rfl) (zer rfl) rfl rfl (by (try simp only [lA]); omega) (by (try simp only [lA]); omega) ?_); rintro p5_20 q5_20 m5_20 o5_20; refine A_at 12 rfl rfl ?_; refine A_q (m' := 8191) rfl rfl rfl (Q_assign rfl rfl) rfl (by decide +kernel) ?_; refine A_done (by decide +kernel) ?_; refine then_n ?_; refine WP_ret ?_)); rotate_left 1))
    all_goals rw [hr]
    all_goals refine pretKM [] _ _ rfl (.inl rfl) rfl ⟨_, _, rfl, rfl, rfl⟩ fun h' hl' hm' => ?_
    all_goals exact ⟨_, _, rfl, OS.sl ‹_› hl' IDC_mono hm' (by simp only [List.nil_append, List.length_append, List.length_cons, List.length_nil]; omega), (OS.cap ‹_›).2⟩
  · have hge : k = l.length := by omega
    subst hge
    have hr := putI_end ht
    have hT := hs.toV hc (u := l.length) (by simp)
    have hF := hs.fromV hc (u := l.length) (by simp)
    have hlen : ([] ++ l : List ID).length = l.length := rfl
    have hTl : (List.take l.length l).length = l.length := by rw [List.length_take]; omega
    have hFl : (List.drop l.length l).length ≤ l.length := by rw [List.length_drop]; omega
    (focus (refine WP_seq ?_; refine WP_seq ?_; refine R_draw (n := 13) mixed rfl ?_; refine A_at 0 rfl rfl ?_; refine A_q (m' := 1) rfl rfl rfl (Q_move rfl rfl) rfl (by decide +kernel) ?_; refine A_at 1 rfl rfl ?_; refine A_q (m' := 3) rfl rfl rfl (Q_move rfl rfl) rfl (by decide +kernel) ?_; refine A_at 2 rfl rfl ?_; refine A_q (m' := 7) rfl rfl rfl (Q_len rfl rfl rfl rfl rfl rfl) rfl (by decide +kernel) ?_; refine A_at 3 rfl rfl ?_; refine A_q (m' := 15) rfl rfl rfl (Q_cmp rfl rfl rfl rfl) rfl (by decide +kernel) ?_; refine A_at 4 rfl rfl ?_; refine A_q (m' := 31) rfl rfl rfl (Q_move rfl rfl) rfl (by decide +kernel) ?_; refine A_at 5 rfl rfl ?_; refine A_gsplit rfl rfl rfl rfl (fun c6_1 => ?_) (fun c6_1 => ?_) <;> (first | (simp [*] at c6_1; done) | (try simp at c6_1)); refine A_at 5 rfl rfl ?_; refine A_gn (m' := 63) rfl rfl rfl rfl rfl rfl rfl (by decide +kernel) ?_; refine A_at 6 rfl rfl ?_; refine A_gn (m' := 127) rfl rfl rfl rfl rfl rfl rfl (by decide +kernel) ?_; refine A_at 7 rfl rfl ?_; refine A_gn (m' := 255) rfl rfl rfl rfl rfl rfl rfl (by decide +kernel) ?_; refine A_at 8 rfl rfl ?_; refine A_gn (m' := 511) rfl rfl rfl rfl rfl rfl rfl (by decide +kernel) ?_; refine A_at 9 rfl rfl ?_; refine A_gn (m' := 1023) rfl rfl rfl rfl rfl rfl rfl (by decide +kernel) ?_; refine A_at 10 rfl rfl ?_; refine A_gn (m' := 2047) rfl rfl rfl rfl rfl rfl rfl (by decide +kernel) ?_; refine A_at 11 rfl rfl ?_; refine A_gn (m' := 4095) rfl rfl rfl rfl rfl rfl rfl (by decide +kernel) ?_; refine A_at 12 rfl rfl ?_; refine A_q (m' := 8191) rfl rfl rfl (Q_pick_f rfl rfl rfl) rfl (by decide +kernel) ?_; refine A_done (by decide +kernel) ?_; refine then_n ?_; refine cond_f rfl ?_; refine WP_exit ?_; refine then_e ?_; refine roundF_e ?_; refine block_e ?_; refine then_n ?_; refine WP_seq ?_; refine WP_seq ?_; refine R_draw (n := 12) mixed rfl ?_; refine A_at 0 rfl rfl ?_; refine A_q (m' := 1) rfl rfl rfl (Q_move rfl rfl) rfl (by decide +kernel) ?_; refine A_at 1 rfl rfl ?_; refine A_q (m' := 3) rfl rfl rfl (Q_move rfl rfl) rfl (by decide +kernel) ?_; refine A_at 2 rfl rfl ?_; refine A_q (m' := 7) rfl rfl rfl (Q_len rfl rfl rfl rfl rfl rfl) rfl (by decide +kernel) ?_; refine A_at 3 rfl rfl ?_; refine A_q (m' := 15) rfl rfl rfl (Q_cmp rfl rfl rfl rfl) rfl (by decide +kernel) ?_; refine A_at 4 rfl rfl ?_; refine A_q (m' := 31) rfl rfl rfl (Q_move rfl rfl) rfl (by decide +kernel) ?_; refine A_at 5 rfl rfl ?_; refine A_gsplit rfl rfl rfl rfl (fun c6_2 => ?_) (fun c6_2 => ?_) <;> (first | (simp [*] at c6_2; done) | (try simp at c6_2)); refine A_at 5 rfl rfl ?_; refine A_gn (m' := 63) rfl rfl rfl rfl rfl rfl rfl (by decide +kernel) ?_; refine A_at 6 rfl rfl ?_; refine A_gn (m' := 127) rfl rfl rfl rfl rfl rfl rfl (by decide +kernel) ?_; refine A_at 7 rfl rfl ?_; refine A_gn (m' := 255) rfl rfl rfl rfl rfl rfl rfl (by decide +kernel) ?_; refine A_at 8 rfl rfl ?_; refine A_gn (m' := 511) rfl rfl rfl rfl rfl rfl rfl (by decide +kernel) ?_; refine A_at 9 rfl rfl ?_; refine A_gn (m' := 1023) rfl rfl rfl rfl rfl rfl rfl (by decide +kernel) ?_; refine A_at 10 rfl rfl ?_; refine A_gn (m' := 2047) rfl rfl rfl rfl rfl rfl rfl (by decide +kernel) ?_; refine A_at 11 rfl rfl ?_; refine A_q (m' := 4095) rfl rfl rfl (Q_pick_f rfl rfl rfl) rfl (by decide +kernel) ?_; refine A_done (by decide +kernel) ?_; refine then_n ?_; refine cond_f rfl ?_; refine WP_skip ?_; refine then_n ?_; refine WP_seq ?_; refine R_draw (n := 13) mixed rfl ?_; refine A_at 1 rfl rfl ?_; refine A_q (m' := 2) rfl rfl rfl (Q_move rfl rfl) rfl (by decide +kernel) ?_; refine A_at 2 rfl rfl ?_; refine A_q (m' := 6) rfl rfl rfl (Q_move rfl rfl) rfl (by decide +kernel) ?_; refine A_at 3 rfl rfl ?_; refine A_q (m' := 14) rfl rfl rfl (Q_slTo rfl rfl (elm rfl) rfl (by omega)) rfl (by decide +kernel) ?_; refine A_at 5 rfl rfl ?_; refine A_loadp (m' := 46) rfl rfl rfl rfl rfl rfl (by decide +kernel) ?_; refine L_agg (Rd.pers ‹_›) (ty rfl) (by first | rfl | assumption) ?_; refine A_at 8 rfl rfl ?_; refine A_qp (m' := 302) rfl rfl rfl (Q_move rfl rfl) rfl (by decide +kernel) ?_; refine A_at 9 rfl rfl ?_; refine A_qp (m' := 814) rfl rfl rfl (Q_move rfl rfl) rfl (by decide +kernel) ?_; refine A_at 10 rfl rfl ?_; refine A_qp (m' := 1838) rfl rfl rfl (Q_slFrom rfl rfl (elm rfl) rfl (by omega)) rfl (by decide +kernel) ?_; refine A_two 0 6 (mi := 1839) (mj := 1902) rfl rfl (by decide +kernel) rfl rfl ?_ ?_; (focus (refine T_at rfl ?_; refine T_cO rfl rfl rfl (C_buildSlice rfl (elm rfl) (zer rfl) rfl rfl rfl rfl ?_); intro b6_3; refine A_two 4 6 (mi := 1855) (mj := 1903) rfl rfl (by decide +kernel) rfl rfl ?_ ?_; (focus (refine T_at rfl ?_; refine T_wO rfl rfl rfl rfl (W_appS [] _ (OS.lit0 _ _ _ _ _) ‹_› rfl rfl rfl rfl rfl rfl (elm rfl) (zer rfl) rfl rfl (by (try simp only [lA]); omega) (by (try simp only [lA]); omega) ?_); rintro p6_4 q6_4 m6_4 o6_4; refine A_at 6 rfl rfl ?_; refine A_c (m' := 1919) rfl rfl rfl rfl (by decide +kernel) (C_buildSlice rfl (elm rfl) (zer rfl) rfl ⟨_, _, _, rfl, rfl, rfl, rfl, rfl, rfl⟩ rfl rfl ?_); intro b6_5; refine A_at 7 rfl rfl ?_; refine A_w (m' := 2047) rfl rfl rfl rfl rfl (by decide +kernel) (W_app1 [] _ o6_4 rfl rfl rfl rfl rfl rfl (elm rfl) (zer rfl) rfl rfl rfl rfl rfl (by (try simp only [lA]); omega) (by (try simp only [lA]); omega) ?_); rintro p6_6 q6_6 m6_6 o6_6; refine A_at 11 rfl rfl ?_; refine A_w (m' := 4095) rfl rfl rfl rfl rfl (by decide +kernel) (W_appS [] _ o6_6 ‹_› rfl rfl rfl rfl rfl rfl (elm rfl) (zer rfl) rfl rfl (by (try simp only [lA]); omega) (by (try simp only [lA]); omega) ?_); rintro p6_7 q6_7 m6_7 o6_7; refine A_at 12 rfl rfl ?_; refine A_q (m' := 8191) rfl rfl rfl (Q_assign rfl rfl) rfl (by decide +kernel) ?_; refine A_done (by decide +kernel) ?_; refine then_n ?_; refine WP_ret ?_)); rotate_left 1; (focus (refine T_at rfl ?_; refine T_cO rfl rfl rfl (C_buildSlice rfl (elm rfl) (zer rfl) rfl ⟨_, _, _, rfl, rfl, rfl, rfl, rfl, rfl⟩ rfl rfl ?_); intro b6_8; refine A_at 4 rfl rfl ?_; refine A_w (m' := 1919) rfl rfl rfl rfl rfl (by decide +kernel) (W_appS [_] _ (OS.lit0 _ _ _ _ _) ‹_› rfl rfl rfl rfl rfl rfl (elm rfl) (zer rfl) rfl rfl (by (try simp only [lA]); omega) (by (try simp only [lA]); omega) ?_); rintro p6_9 q6_9 m6_9 o6_9; refine A_at 7 rfl rfl ?_; refine A_w (m' := 2047) rfl rfl rfl rfl rfl (by decide +kernel) (W_app1 [] _ o6_9 rfl rfl rfl rfl rfl rfl (elm rfl) (zer rfl) rfl rfl rfl rfl rfl (by (try simp only [lA]); omega) (by (try simp only [lA]); omega) ?_); rintro p6_10 q6_10 m6_10 o6_10; refine A_at 11 rfl rfl ?_; refine A_w (m' := 4095) rfl rfl rfl rfl rfl (by decide +kernel) (W_appS [] _ o6_10 ‹_› rfl rfl rfl rfl rfl rfl (elm rfl) (zer rfl) rfl rfl (by (try simp only [lA]); omega) (by (try simp only [lA]); omega) ?_); rintro p6_11 q6_11 m6_11 o6_11; refine A_at 12 rfl rfl ?_; refine A_q (m' := 8191) rfl rfl rfl (Q_assign rfl rfl) rfl (by decide +kernel) ?_; refine A_done (by decide +kernel) ?_; refine then_n ?_; refine WP_ret ?_)); rotate_left 1)); rotate_left 2; (focus (refine T_at rfl ?_; refine T_cO rfl rfl rfl (C_buildSlice rfl (elm rfl) (zer rfl) rfl ⟨_, _, _, rfl, rfl, rfl, rfl, rfl, rfl⟩ rfl rfl ?_); intro b6_12; refine A_at 0 rfl rfl ?_; refine A_c (m' := 1903) rfl rfl rfl rfl (by decide +kernel) (C_buildSlice rfl (elm rfl) (zer rfl) rfl rfl rfl rfl ?_); intro b6_13; refine A_at 4 rfl rfl ?_; refine A_w (m' := 1919) rfl rfl rfl rfl rfl (by decide +kernel) (W_appS [] _ (OS.lit0 _ _ _ _ _) ‹_› rfl rfl rfl rfl rfl rfl (elm rfl) (zer rfl) rfl rfl (by (try simp only [lA]); omega) (by (try simp only [lA]); omega) ?_); rintro p6_14 q6_14 m6_14 o6_14; refine A_at 7 rfl rfl ?_; refine A_w (m' := 2047) rfl rfl rfl rfl rfl (by decide +kernel) (W_app1b (y := (_, _)) [] _ o6_14 rfl rfl rfl rfl rfl rfl (elm rfl) (zer rfl) rfl rfl rfl rfl rfl (by (try simp only [lA]); omega) (by (try simp only [lA]); omega) ?_); rintro p6_15 q6_15 m6_15 o6_15; refine A_at 11 rfl rfl ?_; refine A_w (m' := 4095) rfl rfl rfl rfl rfl (by decide +kernel) (W_appS [] _ o6_15 ‹_› rfl rfl rfl rfl rfl rfl (elm rfl) (zer rfl) rfl rfl (by (try simp only [lA]); omega) (by (try simp only [lA]); omega) ?_); rintro p6_16 q6_16 m6_16 o6_16; refine A_at 12 rfl rfl ?_; refine A_q (m' := 8191) rfl rfl rfl (Q_assign rfl rfl) rfl (by decide +kernel) ?_; refine A_done (by decide +kernel) ?_; refine then_n ?_; refine WP_ret ?_)); rotate_left 1))
    all_goals rw [hr]
    all_goals refine pretKM [] _ _ rfl (.inl rfl) rfl ⟨_, _, rfl, rfl, rfl⟩ fun h' hl' hm' => ?_
    all_goals exact ⟨_, _, rfl, OS.sl ‹_› hl' IDC_mono hm' (by simp only [List.nil_append, List.length_append, List.length_cons, List.length_nil]; omega), (OS.cap ‹_›).2⟩
theorem refPut21_s {h : Frag} {p : Option Addr} {c : Nat} {l : List ID} {x : ID} (hs : SL h 2 IDC (.slice p l.length c) l) (hc : l.length ≤ c) (hb : l.length ≤ 2000000) : PSpec Tryz.prog 99 #[.slice p l.length c, .agg (idc x).toArray] h
    (fun h' v => ∃ p' c', v = .slice p' (putI l x).length c' ∧ SL h' 2 IDC (.slice p' (putI l x).length c') (putI l x) ∧ (putI l x).length ≤ c') := by
  obtain ⟨x1, x2⟩ := x
  refine pspec_of (vs := [.slice p l.length c, .agg (idc (x1, x2)).toArray]) Tryz.func99 Tryz.ntmps99 rfl rfl ?_
  (focus (refine Wr ?_; refine S_c rfl rfl rfl (C_box rfl rfl ?_); intro b0_1; refine Sm rfl ?_; refine On ?_; refine Wr ?_; refine Sm rfl ?_; refine On ?_; refine WP_seq ?_; refine WP_block ?_))
  (focus (refine WP_keepM [] [_] _ rfl ?_; rintro h1_k l1_k k1_k; have a1_k := at_of_keep k1_k; clear k1_k; replace hs := hs.up l1_k))
  (refine WP_loopC (α := Nat) [3, 0] (fun (k : Nat) => l.length - k) (fun (k : Nat) => [(5, .int .i64 k)]) (fun hh (k : Nat) => hh = h1_k ∧ k ≤ l.length ∧ putI l (x1, x2) = l.take k ++ putI (l.drop k) (x1, x2)) 0 ⟨_, _, rfl, ⟨_, _, rfl, rfl, rfl⟩, rfl⟩ (by repeat' first | exact trivial | refine ⟨rfl, ?_⟩) ?_ ?_)
  · exact ⟨rfl, Nat.zero_le _, by simp⟩
  rintro h1 k _ ⟨rfl, hk, ht⟩
  by_cases hlt : k < l.length
  · obtain ⟨⟨y1, y2⟩, ex⟩ := get_of hlt
    by_cases hm : cmpID (y1, y2) (x1, x2) < 0
    · (focus (refine WP_seq ?_; refine WP_seq ?_; refine R_draw (n := 13) mixed rfl ?_; refine A_at 0 rfl rfl ?_; refine A_q (m' := 1) rfl rfl rfl (Q_move rfl rfl) rfl (by decide +kernel) ?_; refine A_at 1 rfl rfl ?_; refine A_q (m' := 3) rfl rfl rfl (Q_move rfl rfl) rfl (by decide +kernel) ?_; refine A_at 2 rfl rfl ?_; refine A_q (m' := 7) rfl rfl rfl (Q_len rfl rfl rfl rfl rfl rfl) rfl (by decide +kernel) ?_; refine A_at 3 rfl rfl ?_; refine A_q (m' := 15) rfl rfl rfl (Q_cmp rfl rfl rfl rfl) rfl (by decide +kernel) ?_; refine A_at 4 rfl rfl ?_; refine A_q (m' := 31) rfl rfl rfl (Q_move rfl rfl) rfl (by decide +kernel) ?_; refine A_at 5 rfl rfl ?_; refine A_gsplit rfl rfl rfl rfl (fun c3_1 => ?_) (fun c3_1 => ?_) <;> (first | (simp [*] at c3_1; done) | (try simp at c3_1)); refine A_at 5 rfl rfl ?_; refine A_gq (m' := 63) rfl rfl rfl rfl rfl rfl (Q_move rfl rfl) rfl (by decide +kernel) ?_; refine A_at 6 rfl rfl ?_; refine A_gq (m' := 127) rfl rfl rfl rfl rfl rfl (Q_move rfl rfl) rfl (by decide +kernel) ?_; refine A_at 7 rfl rfl ?_; refine A_gq (m' := 255) rfl rfl rfl rfl rfl rfl (Q_indexS ‹_› ‹_› rfl rfl rfl (elm rfl) rfl) rfl (by decide +kernel) ?_; refine A_at 8 rfl rfl ?_; refine A_gload (m' := 511) rfl rfl rfl rfl rfl rfl rfl rfl rfl (by decide +kernel) ?_; refine L_elA ‹_› ‹_› (ty rfl) ?_; rintro _ _ _ rfl; refine A_at 9 rfl rfl ?_; refine A_gload (m' := 1023) rfl rfl rfl rfl rfl rfl rfl rfl rfl (by decide +kernel) ?_; refine L_agg (Rd.pers ‹_›) (ty rfl) (by first | rfl | assumption) ?_; refine A_at 10 rfl rfl ?_; refine A_gc (m' := 2047) rfl rfl rfl rfl rfl rfl rfl (by decide +kernel) (C_callv (refCmp21_s _ (_, _) (_, _)) rfl rfl ⟨_, _, rfl, ⟨_, _, rfl, rfl, rfl⟩, rfl⟩ (cal rfl) ?_); refine A_at 11 rfl rfl ?_; refine A_gq (m' := 4095) rfl rfl rfl rfl rfl rfl (Q_cmp rfl rfl rfl rfl) rfl (by decide +kernel) ?_; refine A_at 12 rfl rfl ?_; refine A_q (m' := 8191) rfl rfl rfl (Q_pick_t rfl rfl rfl) rfl (by decide +kernel) ?_; refine A_done (by decide +kernel) ?_; refine then_n ?_; refine WP_cond rfl (fun c3_3 => ?_) (fun c3_3 => ?_) <;> (first | (simp [*] at c3_3; done) | (try simp at c3_3)); refine WP_skip ?_; refine then_n ?_; refine WP_block ?_; refine R_region ?_; refine Sm rfl ?_; refine S_q rfl rfl rfl (Q_add rfl rfl rfl (by omega)) ?_; refine Sm rfl ?_; refine OPS_nil ?_; refine block_n ?_))
      exact roundF_n (k + 1) (by omega) ⟨rfl, by omega, putI_lt ex hm ht⟩ (by repeat' first | exact sR _ | exact sA _ _ | exact sN _ | apply s2 | apply s1) (by repeat' first | exact trivial | refine ⟨rfl, ?_⟩)
    by_cases he : (y1, y2) = (x1, x2)
    · have hr := putI_eq ex hm he ht
      (focus (refine WP_seq ?_; refine WP_seq ?_; refine R_draw (n := 13) mixed rfl ?_; refine A_at 0 rfl rfl ?_; refine A_q (m' := 1) rfl rfl rfl (Q_move rfl rfl) rfl (by decide +kernel) ?_; refine A_at 1 rfl rfl ?_; refine A_q (m' := 3) rfl rfl rfl (Q_move rfl rfl) rfl (by decide +kernel) ?_; refine A_at 2 rfl rfl ?_; refine A_q (m' := 7) rfl rfl rfl (Q_len rfl rfl rfl rfl rfl rfl) rfl (by decide +kernel) ?_; refine A_at 3 rfl rfl ?_; refine A_q (m' := 15) rfl rfl rfl (Q_cmp rfl rfl rfl rfl) rfl (by decide +kernel) ?_; refine A_at 4 rfl rfl ?_; refine A_q (m' := 31) rfl rfl rfl (Q_move rfl rfl) rfl (by decide +kernel) ?_; refine A_at 5 rfl rfl ?_; refine A_gsplit rfl rfl rfl rfl (fun c4_1 => ?_) (fun c4_1 => ?_) <;> (first | (simp [*] at c4_1; done) | (try simp at c4_1)); refine A_at 5 rfl rfl ?_; refine A_gq (m' := 63) rfl rfl rfl rfl rfl rfl (Q_move rfl rfl) rfl (by decide +kernel) ?_; refine A_at 6 rfl rfl ?_; refine A_gq (m' := 127) rfl rfl rfl rfl rfl rfl (Q_move rfl rfl) rfl (by decide +kernel) ?_; refine A_at 7 rfl rfl ?_; refine A_gq (m' := 255) rfl rfl rfl rfl rfl rfl (Q_indexS ‹_› ‹_› rfl rfl rfl (elm rfl) rfl) rfl (by decide +kernel) ?_; refine A_at 8 rfl rfl ?_; refine A_gload (m' := 511) rfl rfl rfl rfl rfl rfl rfl rfl rfl (by decide +kernel) ?_; refine L_elA ‹_› ‹_› (ty rfl) ?_; rintro _ _ _ rfl; refine A_at 9 rfl rfl ?_; refine A_gload (m' := 1023) rfl rfl rfl rfl rfl rfl rfl rfl rfl (by decide +kernel) ?_; refine L_agg (Rd.pers ‹_›) (ty rfl) (by first | rfl | assumption) ?_; refine A_at 10 rfl rfl ?_; refine A_gc (m' := 2047) rfl rfl rfl rfl rfl rfl rfl (by decide +kernel) (C_callv (refCmp21_s _ (_, _) (_, _)) rfl rfl ⟨_, _, rfl, ⟨_, _, rfl, rfl, rfl⟩, rfl⟩ (cal rfl) ?_); refine A_at 11 rfl rfl ?_; refine A_gq (m' := 4095) rfl rfl rfl rfl rfl rfl (Q_cmp rfl rfl rfl rfl) rfl (by decide +kernel) ?_; refine A_at 12 rfl rfl ?_; refine A_q (m' := 8191) rfl rfl rfl (Q_pick_t rfl rfl rfl) rfl (by decide +kernel) ?_; refine A_done (by decide +kernel) ?_; refine then_n ?_; refine WP_cond rfl (fun c4_3 => ?_) (fun c4_3 => ?_) <;> (first | (simp [*] at c4_3; done) | (try simp at c4_3)); (focus (exfalso; omega)); (focus (refine WP_exit ?_; refine then_e ?_; refine roundF_e ?_; refine block_e ?_; refine then_n ?_; refine WP_seq ?_; refine WP_seq ?_; refine R_draw (n := 12) mixed rfl ?_; refine A_at 0 rfl rfl ?_; refine A_q (m' := 1) rfl rfl rfl (Q_move rfl rfl) rfl (by decide +kernel) ?_; refine A_at 1 rfl rfl ?_; refine A_q (m' := 3) rfl rfl rfl (Q_move rfl rfl) rfl (by decide +kernel) ?_; refine A_at 2 rfl rfl ?_; refine A_q (m' := 7) rfl rfl rfl (Q_len rfl rfl rfl rfl rfl rfl) rfl (by decide +kernel) ?_; refine A_at 3 rfl rfl ?_; refine A_q (m' := 15) rfl rfl rfl (Q_cmp rfl rfl rfl rfl) rfl (by decide +kernel) ?_; refine A_at 4 rfl rfl ?_; refine A_q (m' := 31) rfl rfl rfl (Q_move rfl rfl) rfl (by decide +kernel) ?_; refine A_at 5 rfl rfl ?_; refine A_gsplit rfl rfl rfl rfl (fun c4_4 => ?_) (fun c4_4 => ?_) <;> (first | (simp [*] at c4_4; done) | (try simp at c4_4)); refine A_at 5 rfl rfl ?_; refine A_gq (m' := 63) rfl rfl rfl rfl rfl rfl (Q_move rfl rfl) rfl (by decide +kernel) ?_; refine A_at 6 rfl rfl ?_; refine A_gq (m' := 127) rfl rfl rfl rfl rfl rfl (Q_move rfl rfl) rfl (by decide +kernel) ?_; refine A_at 7 rfl rfl ?_; refine A_gq (m' := 255) rfl rfl rfl rfl rfl rfl (Q_indexS ‹_› ‹_› rfl rfl rfl (elm rfl) rfl) rfl (by decide +kernel) ?_; refine A_at 8 rfl rfl ?_; refine A_gload (m' := 511) rfl rfl rfl rfl rfl rfl rfl rfl rfl (by decide +kernel) ?_; refine L_elA ‹_› ‹_› (ty rfl) ?_; rintro _ _ _ rfl; refine A_at 9 rfl rfl ?_; refine A_gload (m' := 1023) rfl rfl rfl rfl rfl rfl rfl rfl rfl (by decide +kernel) ?_; refine L_agg (Rd.pers ‹_›) (ty rfl) (by first | rfl | assumption) ?_; refine A_at 10 rfl rfl ?_; refine A_gq (m' := 2047) rfl rfl rfl rfl rfl rfl (Q_eqI eqID rfl rfl rfl rfl rfl) rfl (by decide +kernel) ?_; refine A_at 11 rfl rfl ?_; refine A_q (m' := 4095) rfl rfl rfl (Q_pick_t rfl rfl rfl) rfl (by decide +kernel) ?_; refine A_done (by decide +kernel) ?_; refine then_n ?_; refine WP_cond rfl (fun c4_6 => ?_) (fun c4_6 => ?_) <;> (first | (simp [*] at c4_6; done) | (try simp at c4_6)); refine Wr ?_; refine Sm rfl ?_; refine Sm rfl ?_; refine On ?_; refine WP_ret ?_; refine then_r ?_)); rotate_left 1))
      rw [hr]
      all_goals refine pret (.inl rfl) rfl ⟨_, _, rfl, rfl, rfl⟩ ?_
      all_goals exact ⟨_, _, rfl, hs, hc⟩
    have hr := putI_ne ex hm he ht
    have hT := hs.toV hc (u := k) (by omega)
    have hF := hs.fromV hc (u := k) (by omega)
    have hlen : ([] ++ l : List ID).length = l.length := rfl
    have hTl : (List.take k l).length = k := by rw [List.length_take]; omega
    have hFl : (List.drop k l).length ≤ l.length := by rw [List.length_drop]; omega
    (focus (refine WP_seq ?_; refine WP_seq ?_; refine R_draw (n := 13) mixed rfl ?_; refine A_at 0 rfl rfl ?_; refine A_q (m' := 1) rfl rfl rfl (Q_move rfl rfl) rfl (by decide +kernel) ?_; refine A_at 1 rfl rfl ?_; refine A_q (m' := 3) rfl rfl rfl (Q_move rfl rfl) rfl (by decide +kernel) ?_; refine A_at 2 rfl rfl ?_; refine A_q (m' := 7) rfl rfl rfl (Q_len rfl rfl rfl rfl rfl rfl) rfl (by decide +kernel) ?_; refine A_at 3 rfl rfl ?_; refine A_q (m' := 15) rfl rfl rfl (Q_cmp rfl rfl rfl rfl) rfl (by decide +kernel) ?_; refine A_at 4 rfl rfl ?_; refine A_q (m' := 31) rfl rfl rfl (Q_move rfl rfl) rfl (by decide +kernel) ?_; refine A_at 5 rfl rfl ?_; refine A_gsplit rfl rfl rfl rfl (fun c5_1 => ?_) (fun c5_1 => ?_) <;> (first | (simp [*] at c5_1; done) | (try simp at c5_1)); refine A_at 5 rfl rfl ?_; refine A_gq (m' := 63) rfl rfl rfl rfl rfl rfl (Q_move rfl rfl) rfl (by decide +kernel) ?_; refine A_at 6 rfl rfl ?_; refine A_gq (m' := 127) rfl rfl rfl rfl rfl rfl (Q_move rfl rfl) rfl (by decide +kernel) ?_; refine A_at 7 rfl rfl ?_; refine A_gq (m' := 255) rfl rfl rfl rfl rfl rfl (Q_indexS ‹_› ‹_› rfl rfl rfl (elm rfl) rfl) rfl (by decide +kernel) ?_; refine A_at 8 rfl rfl ?_; refine A_gload (m' := 511) rfl rfl rfl rfl rfl rfl rfl rfl rfl (by decide +kernel) ?_; refine L_elA ‹_› ‹_› (ty rfl) ?_; rintro _ _ _ rfl; refine A_at 9 rfl rfl ?_; refine A_gload (m' := 1023) rfl rfl rfl rfl rfl rfl rfl rfl rfl (by decide +kernel) ?_; refine L_agg (Rd.pers ‹_›) (ty rfl) (by first | rfl | assumption) ?_; refine A_at 10 rfl rfl ?_; refine A_gc (m' := 2047) rfl rfl rfl rfl rfl rfl rfl (by decide +kernel) (C_callv (refCmp21_s _ (_, _) (_, _)) rfl rfl ⟨_, _, rfl, ⟨_, _, rfl, rfl, rfl⟩, rfl⟩ (cal rfl) ?_); refine A_at 11 rfl rfl ?_; refine A_gq (m' := 4095) rfl rfl rfl rfl rfl rfl (Q_cmp rfl rfl rfl rfl) rfl (by decide +kernel) ?_; refine A_at 12 rfl rfl ?_; refine A_q (m' := 8191) rfl rfl rfl (Q_pick_t rfl rfl rfl) rfl (by decide +kernel) ?_; refine A_done (by decide +kernel) ?_; refine then_n ?_; refine WP_cond rfl (fun c5_3 => ?_) (fun c5_3 => ?_) <;> (first | (simp [*] at c5_3; done) | (try simp at c5_3)); refine WP_exit ?_; refine then_e ?_; refine roundF_e ?_; refine block_e ?_; refine then_n ?_; refine WP_seq ?_; refine WP_seq ?_; refine R_draw (n := 12) mixed rfl ?_; refine A_at 0 rfl rfl ?_; refine A_q (m' := 1) rfl rfl rfl (Q_move rfl rfl) rfl (by decide +kernel) ?_; refine A_at 1 rfl rfl ?_; refine A_q (m' := 3) rfl rfl rfl (Q_move rfl rfl) rfl (by decide +kernel) ?_; refine A_at 2 rfl rfl ?_; refine A_q (m' := 7) rfl rfl rfl (Q_len rfl rfl rfl rfl rfl rfl) rfl (by decide +kernel) ?_; refine A_at 3 rfl rfl ?_; refine A_q (m' := 15) rfl rfl rfl (Q_cmp rfl rfl rfl rfl) rfl (by decide +kernel) ?_; refine A_at 4 rfl rfl ?_; refine A_q (m' := 31) rfl rfl rfl (Q_move rfl rfl) rfl (by decide +kernel) ?_; refine A_at 5 rfl rfl ?_; refine A_gsplit rfl rfl rfl rfl (fun c5_4 => ?_) (fun c5_4 => ?_) <;> (first | (simp [*] at c5_4; done) | (try simp at c5_4)); refine A_at 5 rfl rfl ?_; refine A_gq (m' := 63) rfl rfl rfl rfl rfl rfl (Q_move rfl rfl) rfl (by decide +kernel) ?_; refine A_at 6 rfl rfl ?_; refine A_gq (m' := 127) rfl rfl rfl rfl rfl rfl (Q_move rfl rfl) rfl (by decide +kernel) ?_; refine A_at 7 rfl rfl ?_; refine A_gq (m' := 255) rfl rfl rfl rfl rfl rfl (Q_indexS ‹_› ‹_› rfl rfl rfl (elm rfl) rfl) rfl (by decide +kernel) ?_; refine A_at 8 rfl rfl ?_; refine A_gload (m' := 511) rfl rfl rfl rfl rfl rfl rfl rfl rfl (by decide +kernel) ?_; refine L_elA ‹_› ‹_› (ty rfl) ?_; rintro _ _ _ rfl; refine A_at 9 rfl rfl ?_; refine A_gload (m' := 1023) rfl rfl rfl rfl rfl rfl rfl rfl rfl (by decide +kernel) ?_; refine L_agg (Rd.pers ‹_›) (ty rfl) (by first | rfl | assumption) ?_; refine A_at 10 rfl rfl ?_; refine A_gq (m' := 2047) rfl rfl rfl rfl rfl rfl (Q_eqI eqID rfl rfl rfl rfl rfl) rfl (by decide +kernel) ?_; refine A_at 11 rfl rfl ?_; refine A_q (m' := 4095) rfl rfl rfl (Q_pick_t rfl rfl rfl) rfl (by decide +kernel) ?_; refine A_done (by decide +kernel) ?_; refine then_n ?_; refine WP_cond rfl (fun c5_6 => ?_) (fun c5_6 => ?_) <;> (first | (simp [*] at c5_6; done) | (try simp at c5_6)); refine WP_skip ?_; refine then_n ?_; refine WP_seq ?_; refine R_draw (n := 13) mixed rfl ?_; refine A_at 1 rfl rfl ?_; refine A_q (m' := 2) rfl rfl rfl (Q_move rfl rfl) rfl (by decide +kernel) ?_; refine A_at 2 rfl rfl ?_; refine A_q (m' := 6) rfl rfl rfl (Q_move rfl rfl) rfl (by decide +kernel) ?_; refine A_at 3 rfl rfl ?_; refine A_q (m' := 14) rfl rfl rfl (Q_slTo rfl rfl (elm rfl) rfl (by omega)) rfl (by decide +kernel) ?_; refine A_at 5 rfl rfl ?_; refine A_loadp (m' := 46) rfl rfl rfl rfl rfl rfl (by decide +kernel) ?_; refine L_agg (Rd.pers ‹_›) (ty rfl) (by first | rfl | assumption) ?_; refine A_at 8 rfl rfl ?_; refine A_qp (m' := 302) rfl rfl rfl (Q_move rfl rfl) rfl (by decide +kernel) ?_; refine A_at 9 rfl rfl ?_; refine A_qp (m' := 814) rfl rfl rfl (Q_move rfl rfl) rfl (by decide +kernel) ?_; refine A_at 10 rfl rfl ?_; refine A_qp (m' := 1838) rfl rfl rfl (Q_slFrom rfl rfl (elm rfl) rfl (by omega)) rfl (by decide +kernel) ?_; refine A_two 0 6 (mi := 1839) (mj := 1902) rfl rfl (by decide +kernel) rfl rfl ?_ ?_; (focus (refine T_at rfl ?_; refine T_cO rfl rfl rfl (C_buildSlice rfl (elm rfl) (zer rfl) rfl rfl rfl rfl ?_); intro b5_7; refine A_two 4 6 (mi := 1855) (mj := 1903) rfl rfl (by decide +kernel) rfl rfl ?_ ?_; (focus (refine T_at rfl ?_; refine T_wO rfl rfl rfl rfl (W_appS [] _ (OS.lit0 _ _ _ _ _) ‹_› rfl rfl rfl rfl rfl rfl (elm rfl) (zer rfl) rfl rfl (by (try simp only [lA]); omega) (by (try simp only [lA]); omega) ?_); rintro p5_8 q5_8 m5_8 o5_8; refine A_at 6 rfl rfl ?_; refine A_c (m' := 1919) rfl rfl rfl rfl (by decide +kernel) (C_buildSlice rfl (elm rfl) (zer rfl) rfl ⟨_, _, _, rfl, rfl, rfl, rfl, rfl, rfl⟩ rfl rfl ?_); intro b5_9; refine A_at 7 rfl rfl ?_; refine A_w (m' := 2047) rfl rfl rfl rfl rfl (by decide +kernel) (W_app1 [] _ o5_8 rfl rfl rfl rfl rfl rfl (elm rfl) (zer rfl) rfl rfl rfl rfl rfl (by (try simp only [lA]); omega) (by (try simp only [lA]); omega) ?_); rintro p5_10 q5_10 m5_10 o5_10; refine A_at 11 rfl rfl ?_; refine A_w (m' := 4095) rfl rfl rfl rfl rfl (by decide +kernel) (W_appS [] _ o5_10 ‹_› rfl rfl rfl rfl rfl rfl (elm rfl) (zer rfl) rfl rfl (by (try simp only [lA]); omega) (by (try simp only [lA]); omega) ?_); rintro p5_11 q5_11 m5_11 o5_11; refine A_at 12 rfl rfl ?_; refine A_q (m' := 8191) rfl rfl rfl (Q_assign rfl rfl) rfl (by decide +kernel) ?_; refine A_done (by decide +kernel) ?_; refine then_n ?_; refine WP_ret ?_)); rotate_left 1; (focus (refine T_at rfl ?_; refine T_cO rfl rfl rfl (C_buildSlice rfl (elm rfl) (zer rfl) rfl ⟨_, _, _, rfl, rfl, rfl, rfl, rfl, rfl⟩ rfl rfl ?_); intro b5_12; refine A_at 4 rfl rfl ?_; refine A_w (m' := 1919) rfl rfl rfl rfl rfl (by decide +kernel) (W_appS [_] _ (OS.lit0 _ _ _ _ _) ‹_› rfl rfl rfl rfl rfl rfl (elm rfl) (zer rfl) rfl rfl (by (try simp only [lA]); omega) (by (try simp only [lA]); omega) ?_); rintro p5_13 q5_13 m5_13 o5_13; refine A_at 7 rfl rfl ?_; refine A_w (m' := 2047) rfl rfl rfl rfl rfl (by decide +kernel) (W_app1 [] _ o5_13 rfl rfl rfl rfl rfl rfl (elm rfl) (zer rfl) rfl rfl rfl rfl rfl (by (try simp only [lA]); omega) (by (try simp only [lA]); omega) ?_); rintro p5_14 q5_14 m5_14 o5_14; refine A_at 11 rfl rfl ?_; refine A_w (m' := 4095) rfl rfl rfl rfl rfl (by decide +kernel) (W_appS [] _ o5_14 ‹_› rfl rfl rfl rfl rfl rfl (elm rfl) (zer rfl) rfl rfl (by (try simp only [lA]); omega) (by (try simp only [lA]); omega) ?_); rintro p5_15 q5_15 m5_15 o5_15; refine A_at 12 rfl rfl ?_; refine A_q (m' := 8191) rfl rfl rfl (Q_assign rfl rfl) rfl (by decide +kernel) ?_; refine A_done (by decide +kernel) ?_; refine then_n ?_; refine WP_ret ?_)); rotate_left 1)); rotate_left 2; (focus (refine T_at rfl ?_; refine T_cO rfl rfl rfl (C_buildSlice rfl (elm rfl) (zer rfl) rfl ⟨_, _, _, rfl, rfl, rfl, rfl, rfl, rfl⟩ rfl rfl ?_); intro b5_16; refine A_at 0 rfl rfl ?_; refine A_c (m' := 1903) rfl rfl rfl rfl (by decide +kernel) (C_buildSlice rfl (elm rfl) (zer rfl) rfl rfl rfl rfl ?_); intro b5_17; refine A_at 4 rfl rfl ?_; refine A_w (m' := 1919) rfl rfl rfl rfl rfl (by decide +kernel) (W_appS [] _ (OS.lit0 _ _ _ _ _) ‹_› rfl rfl rfl rfl rfl rfl (elm rfl) (zer rfl) rfl rfl (by (try simp only [lA]); omega) (by (try simp only [lA]); omega) ?_); rintro p5_18 q5_18 m5_18 o5_18; refine A_at 7 rfl rfl ?_; refine A_w (m' := 2047) rfl rfl rfl rfl rfl (by decide +kernel) (W_app1b (y := (_, _)) [] _ o5_18 rfl rfl rfl rfl rfl rfl (elm rfl) (zer rfl) rfl rfl rfl rfl rfl (by (try simp only [lA]); omega) (by (try simp only [lA]); omega) ?_); rintro p5_19 q5_19 m5_19 o5_19; refine A_at 11 rfl rfl ?_; refine A_w (m' := 4095) rfl rfl rfl rfl rfl (by decide +kernel) (W_appS [] _ o5_19 ‹_› rfl rfl rfl rfl rfl rfl (elm rfl) (zer rfl) rfl rfl (by (try simp only [lA]); omega) (by (try simp only [lA]); omega) ?_); rintro p5_20 q5_20 m5_20 o5_20; refine A_at 12 rfl rfl ?_; refine A_q (m' := 8191) rfl rfl rfl (Q_assign rfl rfl) rfl (by decide +kernel) ?_; refine A_done (by decide +kernel) ?_; refine then_n ?_; refine WP_ret ?_)); rotate_left 1))
    all_goals rw [hr]
    all_goals refine pretKM [] _ _ rfl (.inl rfl) rfl ⟨_, _, rfl, rfl, rfl⟩ fun h' hl' hm' => ?_
    all_goals exact ⟨_, _, rfl, OS.sl ‹_› hl' IDC_mono hm' (by simp only [List.nil_append, List.length_append, List.length_cons, List.length_nil]; omega), (OS.cap ‹_›).2⟩
  · have hge : k = l.length := by omega
    subst hge
    have hr := putI_end ht
    have hT := hs.toV hc (u := l.length) (by simp)
    have hF := hs.fromV hc (u := l.length) (by simp)
    have hlen : ([] ++ l : List ID).length = l.length := rfl
    have hTl : (List.take l.length l).length = l.length := by rw [List.length_take]; omega
    have hFl : (List.drop l.length l).length ≤ l.length := by rw [List.length_drop]; omega
    (focus (refine WP_seq ?_; refine WP_seq ?_; refine R_draw (n := 13) mixed rfl ?_; refine A_at 0 rfl rfl ?_; refine A_q (m' := 1) rfl rfl rfl (Q_move rfl rfl) rfl (by decide +kernel) ?_; refine A_at 1 rfl rfl ?_; refine A_q (m' := 3) rfl rfl rfl (Q_move rfl rfl) rfl (by decide +kernel) ?_; refine A_at 2 rfl rfl ?_; refine A_q (m' := 7) rfl rfl rfl (Q_len rfl rfl rfl rfl rfl rfl) rfl (by decide +kernel) ?_; refine A_at 3 rfl rfl ?_; refine A_q (m' := 15) rfl rfl rfl (Q_cmp rfl rfl rfl rfl) rfl (by decide +kernel) ?_; refine A_at 4 rfl rfl ?_; refine A_q (m' := 31) rfl rfl rfl (Q_move rfl rfl) rfl (by decide +kernel) ?_; refine A_at 5 rfl rfl ?_; refine A_gsplit rfl rfl rfl rfl (fun c6_1 => ?_) (fun c6_1 => ?_) <;> (first | (simp [*] at c6_1; done) | (try simp at c6_1)); refine A_at 5 rfl rfl ?_; refine A_gn (m' := 63) rfl rfl rfl rfl rfl rfl rfl (by decide +kernel) ?_; refine A_at 6 rfl rfl ?_; refine A_gn (m' := 127) rfl rfl rfl rfl rfl rfl rfl (by decide +kernel) ?_; refine A_at 7 rfl rfl ?_; refine A_gn (m' := 255) rfl rfl rfl rfl rfl rfl rfl (by decide +kernel) ?_; refine A_at 8 rfl rfl ?_; refine A_gn (m' := 511) rfl rfl rfl rfl rfl rfl rfl (by decide +kernel) ?_; refine A_at 9 rfl rfl ?_; refine A_gn (m' := 1023) rfl rfl rfl rfl rfl rfl rfl (by decide +kernel) ?_; refine A_at 10 rfl rfl ?_; refine A_gn (m' := 2047) rfl rfl rfl rfl rfl rfl rfl (by decide +kernel) ?_; refine A_at 11 rfl rfl ?_; refine A_gn (m' := 4095) rfl rfl rfl rfl rfl rfl rfl (by decide +kernel) ?_; refine A_at 12 rfl rfl ?_; refine A_q (m' := 8191) rfl rfl rfl (Q_pick_f rfl rfl rfl) rfl (by decide +kernel) ?_; refine A_done (by decide +kernel) ?_; refine then_n ?_; refine cond_f rfl ?_; refine WP_exit ?_; refine then_e ?_; refine roundF_e ?_; refine block_e ?_; refine then_n ?_; refine WP_seq ?_; refine WP_seq ?_; refine R_draw (n := 12) mixed rfl ?_; refine A_at 0 rfl rfl ?_; refine A_q (m' := 1) rfl rfl rfl (Q_move rfl rfl) rfl (by decide +kernel) ?_; refine A_at 1 rfl rfl ?_; refine A_q (m' := 3) rfl rfl rfl (Q_move rfl rfl) rfl (by decide +kernel) ?_; refine A_at 2 rfl rfl ?_; refine A_q (m' := 7) rfl rfl rfl (Q_len rfl rfl rfl rfl rfl rfl) rfl (by decide +kernel) ?_; refine A_at 3 rfl rfl ?_; refine A_q (m' := 15) rfl rfl rfl (Q_cmp rfl rfl rfl rfl) rfl (by decide +kernel) ?_; refine A_at 4 rfl rfl ?_; refine A_q (m' := 31) rfl rfl rfl (Q_move rfl rfl) rfl (by decide +kernel) ?_; refine A_at 5 rfl rfl ?_; refine A_gsplit rfl rfl rfl rfl (fun c6_2 => ?_) (fun c6_2 => ?_) <;> (first | (simp [*] at c6_2; done) | (try simp at c6_2)); refine A_at 5 rfl rfl ?_; refine A_gn (m' := 63) rfl rfl rfl rfl rfl rfl rfl (by decide +kernel) ?_; refine A_at 6 rfl rfl ?_; refine A_gn (m' := 127) rfl rfl rfl rfl rfl rfl rfl (by decide +kernel) ?_; refine A_at 7 rfl rfl ?_; refine A_gn (m' := 255) rfl rfl rfl rfl rfl rfl rfl (by decide +kernel) ?_; refine A_at 8 rfl rfl ?_; refine A_gn (m' := 511) rfl rfl rfl rfl rfl rfl rfl (by decide +kernel) ?_; refine A_at 9 rfl rfl ?_; refine A_gn (m' := 1023) rfl rfl rfl rfl rfl rfl rfl (by decide +kernel) ?_; refine A_at 10 rfl rfl ?_; refine A_gn (m' := 2047) rfl rfl rfl rfl rfl rfl rfl (by decide +kernel) ?_; refine A_at 11 rfl rfl ?_; refine A_q (m' := 4095) rfl rfl rfl (Q_pick_f rfl rfl rfl) rfl (by decide +kernel) ?_; refine A_done (by decide +kernel) ?_; refine then_n ?_; refine cond_f rfl ?_; refine WP_skip ?_; refine then_n ?_; refine WP_seq ?_; refine R_draw (n := 13) mixed rfl ?_; refine A_at 1 rfl rfl ?_; refine A_q (m' := 2) rfl rfl rfl (Q_move rfl rfl) rfl (by decide +kernel) ?_; refine A_at 2 rfl rfl ?_; refine A_q (m' := 6) rfl rfl rfl (Q_move rfl rfl) rfl (by decide +kernel) ?_; refine A_at 3 rfl rfl ?_; refine A_q (m' := 14) rfl rfl rfl (Q_slTo rfl rfl (elm rfl) rfl (by omega)) rfl (by decide +kernel) ?_; refine A_at 5 rfl rfl ?_; refine A_loadp (m' := 46) rfl rfl rfl rfl rfl rfl (by decide +kernel) ?_; refine L_agg (Rd.pers ‹_›) (ty rfl) (by first | rfl | assumption) ?_; refine A_at 8 rfl rfl ?_; refine A_qp (m' := 302) rfl rfl rfl (Q_move rfl rfl) rfl (by decide +kernel) ?_; refine A_at 9 rfl rfl ?_; refine A_qp (m' := 814) rfl rfl rfl (Q_move rfl rfl) rfl (by decide +kernel) ?_; refine A_at 10 rfl rfl ?_; refine A_qp (m' := 1838) rfl rfl rfl (Q_slFrom rfl rfl (elm rfl) rfl (by omega)) rfl (by decide +kernel) ?_; refine A_two 0 6 (mi := 1839) (mj := 1902) rfl rfl (by decide +kernel) rfl rfl ?_ ?_; (focus (refine T_at rfl ?_; refine T_cO rfl rfl rfl (C_buildSlice rfl (elm rfl) (zer rfl) rfl rfl rfl rfl ?_); intro b6_3; refine A_two 4 6 (mi := 1855) (mj := 1903) rfl rfl (by decide +kernel) rfl rfl ?_ ?_; (focus (refine T_at rfl ?_; refine T_wO rfl rfl rfl rfl (W_appS [] _ (OS.lit0 _ _ _ _ _) ‹_› rfl rfl rfl rfl rfl rfl (elm rfl) (zer rfl) rfl rfl (by (try simp only [lA]); omega) (by (try simp only [lA]); omega) ?_); rintro p6_4 q6_4 m6_4 o6_4; refine A_at 6 rfl rfl ?_; refine A_c (m' := 1919) rfl rfl rfl rfl (by decide +kernel) (C_buildSlice rfl (elm rfl) (zer rfl) rfl ⟨_, _, _, rfl, rfl, rfl, rfl, rfl, rfl⟩ rfl rfl ?_); intro b6_5; refine A_at 7 rfl rfl ?_; refine A_w (m' := 2047) rfl rfl rfl rfl rfl (by decide +kernel) (W_app1 [] _ o6_4 rfl rfl rfl rfl rfl rfl (elm rfl) (zer rfl) rfl rfl rfl rfl rfl (by (try simp only [lA]); omega) (by (try simp only [lA]); omega) ?_); rintro p6_6 q6_6 m6_6 o6_6; refine A_at 11 rfl rfl ?_; refine A_w (m' := 4095) rfl rfl rfl rfl rfl (by decide +kernel) (W_appS [] _ o6_6 ‹_› rfl rfl rfl rfl rfl rfl (elm rfl) (zer rfl) rfl rfl (by (try simp only [lA]); omega) (by (try simp only [lA]); omega) ?_); rintro p6_7 q6_7 m6_7 o6_7; refine A_at 12 rfl rfl ?_; refine A_q (m' := 8191) rfl rfl rfl (Q_assign rfl rfl) rfl (by decide +kernel) ?_; refine A_done (by decide +kernel) ?_; refine then_n ?_; refine WP_ret ?_)); rotate_left 1; (focus (refine T_at rfl ?_; refine T_cO rfl rfl rfl (C_buildSlice rfl (elm rfl) (zer rfl) rfl ⟨_, _, _, rfl, rfl, rfl, rfl, rfl, rfl⟩ rfl rfl ?_); intro b6_8; refine A_at 4 rfl rfl ?_; refine A_w (m' := 1919) rfl rfl rfl rfl rfl (by decide +kernel) (W_appS [_] _ (OS.lit0 _ _ _ _ _) ‹_› rfl rfl rfl rfl rfl rfl (elm rfl) (zer rfl) rfl rfl (by (try simp only [lA]); omega) (by (try simp only [lA]); omega) ?_); rintro p6_9 q6_9 m6_9 o6_9; refine A_at 7 rfl rfl ?_; refine A_w (m' := 2047) rfl rfl rfl rfl rfl (by decide +kernel) (W_app1 [] _ o6_9 rfl rfl rfl rfl rfl rfl (elm rfl) (zer rfl) rfl rfl rfl rfl rfl (by (try simp only [lA]); omega) (by (try simp only [lA]); omega) ?_); rintro p6_10 q6_10 m6_10 o6_10; refine A_at 11 rfl rfl ?_; refine A_w (m' := 4095) rfl rfl rfl rfl rfl (by decide +kernel) (W_appS [] _ o6_10 ‹_› rfl rfl rfl rfl rfl rfl (elm rfl) (zer rfl) rfl rfl (by (try simp only [lA]); omega) (by (try simp only [lA]); omega) ?_); rintro p6_11 q6_11 m6_11 o6_11; refine A_at 12 rfl rfl ?_; refine A_q (m' := 8191) rfl rfl rfl (Q_assign rfl rfl) rfl (by decide +kernel) ?_; refine A_done (by decide +kernel) ?_; refine then_n ?_; refine WP_ret ?_)); rotate_left 1)); rotate_left 2; (focus (refine T_at rfl ?_; refine T_cO rfl rfl rfl (C_buildSlice rfl (elm rfl) (zer rfl) rfl ⟨_, _, _, rfl, rfl, rfl, rfl, rfl, rfl⟩ rfl rfl ?_); intro b6_12; refine A_at 0 rfl rfl ?_; refine A_c (m' := 1903) rfl rfl rfl rfl (by decide +kernel) (C_buildSlice rfl (elm rfl) (zer rfl) rfl rfl rfl rfl ?_); intro b6_13; refine A_at 4 rfl rfl ?_; refine A_w (m' := 1919) rfl rfl rfl rfl rfl (by decide +kernel) (W_appS [] _ (OS.lit0 _ _ _ _ _) ‹_› rfl rfl rfl rfl rfl rfl (elm rfl) (zer rfl) rfl rfl (by (try simp only [lA]); omega) (by (try simp only [lA]); omega) ?_); rintro p6_14 q6_14 m6_14 o6_14; refine A_at 7 rfl rfl ?_; refine A_w (m' := 2047) rfl rfl rfl rfl rfl (by decide +kernel) (W_app1b (y := (_, _)) [] _ o6_14 rfl rfl rfl rfl rfl rfl (elm rfl) (zer rfl) rfl rfl rfl rfl rfl (by (try simp only [lA]); omega) (by (try simp only [lA]); omega) ?_); rintro p6_15 q6_15 m6_15 o6_15; refine A_at 11 rfl rfl ?_; refine A_w (m' := 4095) rfl rfl rfl rfl rfl (by decide +kernel) (W_appS [] _ o6_15 ‹_› rfl rfl rfl rfl rfl rfl (elm rfl) (zer rfl) rfl rfl (by (try simp only [lA]); omega) (by (try simp only [lA]); omega) ?_); rintro p6_16 q6_16 m6_16 o6_16; refine A_at 12 rfl rfl ?_; refine A_q (m' := 8191) rfl rfl rfl (Q_assign rfl rfl) rfl (by decide +kernel) ?_; refine A_done (by decide +kernel) ?_; refine then_n ?_; refine WP_ret ?_)); rotate_left 1))
    all_goals rw [hr]
    all_goals refine pretKM [] _ _ rfl (.inl rfl) rfl ⟨_, _, rfl, rfl, rfl⟩ fun h' hl' hm' => ?_
    all_goals exact ⟨_, _, rfl, OS.sl ‹_› hl' IDC_mono hm' (by simp only [List.nil_append, List.length_append, List.length_cons, List.length_nil]; omega), (OS.cap ‹_›).2⟩
end Go.Proofs.YtfhoecgiahpddaaGreat
/-
  CONTRACTS: the reference's sets of identities (refmeshref21.Set, Minus).
-/
set_option linter.all false
namespace Go.Proofs.YtfhoecgiahpddaaGreat
open Go.Mesh Go.RowKit
set_option maxRecDepth 100000
set_option linter.unusedVariables false
set_option maxHeartbeats 4000000
attribute [local irreducible] WP OPS ANY ANYo LG LV FSpec PSpec QOP OPc OPw thenQ blockQ roundQ roundF retQ retM Rd At SLB OS cmpI orI cmpID namedB valB nodeB kindB validG valAux idxI findG zeroV viewOf vwAt idxOf recv flyB scionOf moveOf numberedOf idOf valueOf mget mput localB carriedB msgB sizesB smallV fewB stubOf followF followOf flOf flightsOf flPre setL minusL compactL putI mergeN insN insAll unionR NMap Coll retN bodyS GMap Dfs refsV refsOf reachL movedOf movedG graphParts graphR isMove flightIDs mailIDs viewIDs rawRoots rootsR refFl refMoved
theorem setL_take {l : List ID} {k : Nat} {x : ID} (hx : l[k]? = some x) : setL (l.take (k + 1)) = putI (setL (l.take k)) x := by
  simp [setL, List.take_add_one, hx]
theorem setL_nil : setL [] = [] := by simp [setL]
/-- what is taken away -/
def keepL (ys xs : List ID) : List ID := xs.filter fun x => !decide (x ∈ ys)
theorem keepL_take {ys l : List ID} {k : Nat} {x : ID} (hx : l[k]? = some x) : setL (keepL ys (l.take (k + 1))) = if x ∈ ys then setL (keepL ys (l.take k)) else putI (setL (keepL ys (l.take k))) x := by
  by_cases h : x ∈ ys <;> simp [keepL, setL, List.take_add_one, hx, h]
theorem keepL_nil (ys : List ID) : setL (keepL ys []) = [] := by simp [keepL, setL]
theorem keepL_len (ys xs : List ID) : (keepL ys xs).length ≤ xs.length := List.length_filter_le _ _
theorem keepL_minus (xs ys : List ID) : setL (keepL ys xs) = minusL xs ys := by
  rw [minusL]
  refine SI_unique (SI_setL _) (SI_filter (SI_setL _)) fun z => ?_
  rw [mem_setL, keepL, List.mem_filter, List.mem_filter, mem_setL]
attribute [local irreducible] keepL
theorem refSet_s {h : Frag} {a : Value} {xs : List ID} (hs : SL h 2 IDC a xs) (hb : xs.length ≤ 1000000) : PSpec Tryz.prog 53 #[a] h
    (fun h' v => ∃ p' c', v = .slice p' (setL xs).length c' ∧ SL h' 2 IDC (.slice p' (setL xs).length c') (setL xs) ∧ (setL xs).length ≤ c') := by
  obtain ⟨pv, cv, rfl⟩ := hs.slice
  refine pspec_of (vs := [.slice pv xs.length cv]) Tryz.func53 Tryz.ntmps53 rfl rfl ?_
  (focus (refine Wr ?_; refine Sm rfl ?_; refine On ?_; refine Wr ?_; refine S_c rfl rfl rfl (C_buildSlice rfl (elm rfl) (zer rfl) rfl rfl rfl rfl ?_); intro b0_1; refine Sm rfl ?_; refine On ?_; refine WP_seq ?_; refine Wr ?_; refine Sm rfl ?_; refine On ?_; refine WP_block ?_))
  (refine WP_loopC (α := Nat × List ID × Option Addr × Nat) [0] (fun (s : Nat × List ID × Option Addr × Nat) => xs.length - s.1) (fun (s : Nat × List ID × Option Addr × Nat) => [(4, .int .i64 (s.1 : Int)), (3, .slice s.2.2.1 s.2.1.length s.2.2.2)]) (fun hh (s : Nat × List ID × Option Addr × Nat) => le h hh ∧ s.1 ≤ xs.length ∧ s.2.1 = setL (xs.take s.1) ∧ SL hh 2 IDC (.slice s.2.2.1 s.2.1.length s.2.2.2) s.2.1 ∧ s.2.1.length ≤ s.2.2.2) (0, [], some ⟨b0_1, 0, none⟩, 0) ⟨_, _, rfl, rfl, rfl⟩ (by repeat' first | exact trivial | refine ⟨rfl, ?_⟩) ?_ ?_)
  · exact ⟨le_refl _, Nat.zero_le _, by rw [List.take_zero, setL_nil], SLB.nil _ _ _ _ _ _, Nat.le_refl _⟩
  rintro h1 ⟨k, out, p, c⟩ _ ⟨hl1, hk, ho, hO, hc⟩
  simp only at hk ho hO hc
  dsimp only
  (replace hs := hs.up hl1)
  have hol : out.length ≤ k := by rw [ho]; have := setL_length (xs.take k); rw [List.length_take] at this; omega
  by_cases hlt : k < xs.length
  · obtain ⟨⟨x1, x2⟩, ex⟩ := get_of hlt
    have hset := setL_take ex
    rw [← ho] at hset
    (focus (refine WP_seq ?_; refine Wr ?_; refine Sm rfl ?_; refine Sm rfl ?_; refine S_q rfl rfl rfl (Q_len rfl rfl rfl rfl rfl rfl) ?_; refine Sc rfl rfl rfl rfl rfl rfl rfl ?_; refine On ?_; refine WP_cond rfl (fun c3_1 => ?_) (fun c3_1 => ?_) <;> (first | (simp [*] at c3_1; done) | (try simp at c3_1)); refine WP_skip ?_; refine then_n ?_; refine WP_seq ?_; refine WP_block ?_; refine R_region ?_; refine Sm rfl ?_; refine Sm rfl ?_; refine Sm rfl ?_; refine S_q rfl rfl rfl (Q_indexS ‹_› ‹_› rfl rfl rfl (elm rfl) rfl) ?_; refine S_load rfl rfl rfl rfl rfl ?_; refine L_elA ‹_› ‹_› (ty rfl) ?_; rintro _ _ _ rfl; refine S_c rfl rfl rfl (C_call (refPut21_s (x := (_, _)) ‹_› (by omega) (by omega)) rfl rfl ⟨_, _, rfl, ⟨_, _, rfl, rfl, rfl⟩, rfl⟩ (cal rfl) ?_); rintro h3_3 _ l3_3 ⟨p3_3, q3_3, rfl, f3_3, g3_3⟩; replace hO := hO.up l3_3; replace hs := hs.up l3_3; refine Sm rfl ?_; refine OPS_nil ?_; refine block_n ?_; refine then_n ?_; refine R_region ?_; refine Sm rfl ?_; refine S_q rfl rfl rfl (Q_add rfl rfl rfl (by omega)) ?_; refine Sm rfl ?_; refine OPS_nil ?_))
    exact roundF_n (k + 1, putI out (x1, x2), p3_3, q3_3) (by simp only; omega) ⟨le_trans hl1 l3_3, by simp only; omega, hset.symm, f3_3, g3_3⟩ (by repeat' first | exact sR _ | exact sA _ _ | exact sN _ | apply s2 | apply s1) (by repeat' first | exact trivial | refine ⟨rfl, ?_⟩)
  · have hge : k = xs.length := by omega
    subst hge
    rw [List.take_length] at ho
    subst ho
    (focus (refine WP_seq ?_; refine Wr ?_; refine Sm rfl ?_; refine Sm rfl ?_; refine S_q rfl rfl rfl (Q_len rfl rfl rfl rfl rfl rfl) ?_; refine Sc rfl rfl rfl rfl rfl rfl rfl ?_; refine On ?_; refine WP_cond rfl (fun c4_1 => ?_) (fun c4_1 => ?_) <;> (first | (simp [*] at c4_1; done) | (try simp at c4_1)); refine WP_exit ?_; refine then_e ?_; refine roundF_e ?_; refine block_e ?_; refine then_n ?_; refine Wr ?_; refine Sm rfl ?_; refine Sm rfl ?_; refine On ?_; refine WP_ret ?_))
    refine pret (.inl rfl) rfl ⟨_, _, rfl, rfl, rfl⟩ ?_
    exact ⟨_, _, rfl, hO, hc⟩
theorem refMinus_s {h : Frag} {a b : Value} {xs ys : List ID} (hs : SL h 2 IDC a xs) (hy : SL h 2 IDC b ys) (hb : xs.length ≤ 1000000) : PSpec Tryz.prog 52 #[a, b] h
    (fun h' v => ∃ p' c', v = .slice p' (minusL xs ys).length c' ∧ SL h' 2 IDC (.slice p' (minusL xs ys).length c') (minusL xs ys) ∧ (minusL xs ys).length ≤ c') := by
  obtain ⟨pv, cv, rfl⟩ := hs.slice
  obtain ⟨pu, cu, rfl⟩ := hy.slice
  refine pspec_of (vs := [.slice pv xs.length cv, .slice pu ys.length cu]) Tryz.func52 Tryz.ntmps52 rfl rfl ?_
  (focus (refine Wr ?_; refine Sm rfl ?_; refine On ?_; refine Wr ?_; refine S_c rfl rfl rfl (C_buildSlice rfl (elm rfl) (zer rfl) rfl rfl rfl rfl ?_); intro b0_1; refine Sm rfl ?_; refine On ?_; refine WP_seq ?_; refine Wr ?_; refine Sm rfl ?_; refine On ?_; refine WP_block ?_))
  (refine WP_loopC (α := Nat × List ID × Option Addr × Nat) [0, 1] (fun (s : Nat × List ID × Option Addr × Nat) => xs.length - s.1) (fun (s : Nat × List ID × Option Addr × Nat) => [(6, .int .i64 (s.1 : Int)), (5, .slice s.2.2.1 s.2.1.length s.2.2.2)]) (fun hh (s : Nat × List ID × Option Addr × Nat) => le h hh ∧ s.1 ≤ xs.length ∧ s.2.1 = setL (keepL ys (xs.take s.1)) ∧ SL hh 2 IDC (.slice s.2.2.1 s.2.1.length s.2.2.2) s.2.1 ∧ s.2.1.length ≤ s.2.2.2) (0, [], some ⟨b0_1, 0, none⟩, 0) ⟨_, _, rfl, ⟨_, _, rfl, rfl, rfl⟩, rfl⟩ (by repeat' first | exact trivial | refine ⟨rfl, ?_⟩) ?_ ?_)
  · exact ⟨le_refl _, Nat.zero_le _, by rw [List.take_zero, keepL_nil], SLB.nil _ _ _ _ _ _, Nat.le_refl _⟩
  rintro h1 ⟨k, out, p, c⟩ _ ⟨hl1, hk, ho, hO, hc⟩
  simp only at hk ho hO hc
  dsimp only
  (replace hs := hs.up hl1; replace hy := hy.up hl1)
  have hol : out.length ≤ k := by
    have h1 := setL_length (keepL ys (xs.take k))
    have h2 := keepL_len ys (xs.take k)
    rw [List.length_take] at h2
    rw [ho]; omega
  by_cases hlt : k < xs.length
  · obtain ⟨⟨x1, x2⟩, ex⟩ := get_of hlt
    have hset := keepL_take (ys := ys) ex
    rw [← ho] at hset
    (focus (refine WP_seq ?_; refine Wr ?_; refine Sm rfl ?_; refine Sm rfl ?_; refine S_q rfl rfl rfl (Q_len rfl rfl rfl rfl rfl rfl) ?_; refine Sc rfl rfl rfl rfl rfl rfl rfl ?_; refine On ?_; refine WP_cond rfl (fun c3_1 => ?_) (fun c3_1 => ?_) <;> (first | (simp [*] at c3_1; done) | (try simp at c3_1)); refine WP_skip ?_; refine then_n ?_; refine WP_seq ?_; refine WP_block ?_; refine Wr ?_; refine Sm rfl ?_; refine Sm rfl ?_; refine Sm rfl ?_; refine S_q rfl rfl rfl (Q_indexS ‹_› ‹_› rfl rfl rfl (elm rfl) rfl) ?_; refine S_load rfl rfl rfl rfl rfl ?_; refine L_elA ‹_› ‹_› (ty rfl) ?_; rintro _ _ _ rfl; refine S_c rfl rfl rfl (C_callv (refHas_s (x := (_, _)) ‹_›) rfl rfl ⟨_, _, rfl, ⟨_, _, rfl, rfl, rfl⟩, rfl⟩ (cal rfl) ?_); refine S_q rfl rfl rfl (Q_not rfl rfl) ?_; refine On ?_; refine WP_cond rfl (fun c3_3 => ?_) (fun c3_3 => ?_) <;> (first | (simp [*] at c3_3; done) | (try simp at c3_3)); (focus (refine R_region ?_; refine Sm rfl ?_; refine Sm rfl ?_; refine Sm rfl ?_; refine S_q rfl rfl rfl (Q_indexS ‹_› ‹_› rfl rfl rfl (elm rfl) rfl) ?_; refine S_load rfl rfl rfl rfl rfl ?_; refine L_elA ‹_› ‹_› (ty rfl) ?_; rintro _ _ _ rfl; refine S_c rfl rfl rfl (C_call (refPut21_s (x := (_, _)) ‹_› (by omega) (by omega)) rfl rfl ⟨_, _, rfl, ⟨_, _, rfl, rfl, rfl⟩, rfl⟩ (cal rfl) ?_); rintro h3_5 _ l3_5 ⟨p3_5, q3_5, rfl, f3_5, g3_5⟩; replace hO := hO.up l3_5; replace hs := hs.up l3_5; replace hy := hy.up l3_5; refine Sm rfl ?_; refine OPS_nil ?_; refine block_n ?_; refine then_n ?_; refine R_region ?_; refine Sm rfl ?_; refine S_q rfl rfl rfl (Q_add rfl rfl rfl (by omega)) ?_; refine Sm rfl ?_; refine OPS_nil ?_)); rotate_left 1; (focus (refine WP_skip ?_; refine block_n ?_; refine then_n ?_; refine R_region ?_; refine Sm rfl ?_; refine S_q rfl rfl rfl (Q_add rfl rfl rfl (by omega)) ?_; refine Sm rfl ?_; refine OPS_nil ?_)); rotate_left 1))
    · rw [if_neg c3_3] at hset
      exact roundF_n (k + 1, putI out (x1, x2), p3_5, q3_5) (by simp only; omega) ⟨le_trans hl1 l3_5, by simp only; omega, hset.symm, f3_5, g3_5⟩ (by repeat' first | exact sR _ | exact sA _ _ | exact sN _ | apply s2 | apply s1) (by repeat' first | exact trivial | refine ⟨rfl, ?_⟩)
    · rw [if_pos c3_3] at hset
      exact roundF_n (k + 1, out, p, c) (by simp only; omega) ⟨hl1, by simp only; omega, hset.symm, hO, hc⟩ (by repeat' first | exact sR _ | exact sA _ _ | exact sN _ | apply s2 | apply s1) (by repeat' first | exact trivial | refine ⟨rfl, ?_⟩)
  · have hge : k = xs.length := by omega
    subst hge
    rw [List.take_length, keepL_minus] at ho
    subst ho
    (focus (refine WP_seq ?_; refine Wr ?_; refine Sm rfl ?_; refine Sm rfl ?_; refine S_q rfl rfl rfl (Q_len rfl rfl rfl rfl rfl rfl) ?_; refine Sc rfl rfl rfl rfl rfl rfl rfl ?_; refine On ?_; refine WP_cond rfl (fun c4_1 => ?_) (fun c4_1 => ?_) <;> (first | (simp [*] at c4_1; done) | (try simp at c4_1)); refine WP_exit ?_; refine then_e ?_; refine roundF_e ?_; refine block_e ?_; refine then_n ?_; refine Wr ?_; refine Sm rfl ?_; refine Sm rfl ?_; refine On ?_; refine WP_ret ?_))
    refine pret (.inl rfl) rfl ⟨_, _, rfl, rfl, rfl⟩ ?_
    exact ⟨_, _, rfl, hO, hc⟩
end Go.Proofs.YtfhoecgiahpddaaGreat
/-
  PLAIN: what is reached, taken from a list of what is still to do.
-/
set_option linter.all false
namespace Go.Proofs.YtfhoecgiahpddaaGreat
open Go.Mesh Go.RowKit
set_option maxRecDepth 100000
set_option linter.unusedVariables false
set_option maxHeartbeats 4000000
attribute [local irreducible] WP OPS ANY ANYo LG LV FSpec PSpec QOP OPc OPw thenQ blockQ roundQ roundF retQ retM Rd At SLB OS cmpI orI cmpID namedB valB nodeB kindB validG valAux idxI findG zeroV viewOf vwAt idxOf recv flyB scionOf moveOf numberedOf idOf valueOf mget mput localB carriedB stubOf followF followOf flOf flightsOf flPre setL minusL compactL putI mergeN insN insAll unionR NMap Coll retN bodyS GMap Dfs refsV refsOf reachL
/-- the list of what is to do, read up to i; what was found -/
def Bfs (g : List Nd) (roots todo : List ID) (i : Nat) (out : List ID) : Prop := SI out ∧ (∀ x, x ∈ out → Reach g roots x) ∧ (∀ x, x ∈ todo → ∀ n, findG g x = some n → Reach g roots x) ∧ (∀ x, x ∈ roots → x ∈ todo) ∧
  (∀ x, x ∈ out → ∀ n, findG g x = some n → ∀ y, y ∈ refsOf n → y ∈ todo) ∧ ∀ (j : Nat) (x : ID), j < i → todo[j]? = some x → x ∈ out ∨ findG g x = none
theorem Bfs_start (g : List Nd) (roots : List ID) : Bfs g roots roots 0 [] := ⟨List.Pairwise.nil, by simp, fun x hx n hn => .root hx hn, fun _ h => h, by simp, fun j x hj => absurd hj (Nat.not_lt_zero _)⟩
theorem Bfs_skip {g : List Nd} {roots todo out : List ID} {i : Nat} {x : ID} (b : Bfs g roots todo i out) (hx : todo[i]? = some x) (h : x ∈ out ∨ findG g x = none) : Bfs g roots todo (i + 1) out := by
  obtain ⟨b1, b2, b3, b4, b5, b6⟩ := b
  refine ⟨b1, b2, b3, b4, b5, fun j y hj hy => ?_⟩
  by_cases e : j = i
  · subst e; rw [hx] at hy; cases hy; exact h
  · exact b6 j y (by omega) hy
theorem Bfs_add {g : List Nd} {roots todo out : List ID} {i : Nat} {x : ID} {n : Nd} (b : Bfs g roots todo i out) (hx : todo[i]? = some x) (hn : findG g x = some n) : Bfs g roots (todo ++ refsOf n) (i + 1) (putI out x) := by
  obtain ⟨b1, b2, b3, b4, b5, b6⟩ := b
  have hrx : Reach g roots x := b3 x (List.mem_of_getElem? hx) n hn
  have hlt := (List.getElem?_eq_some_iff.1 hx).1
  refine ⟨SI_putI b1, fun y hy => ?_, fun y hy m hm => ?_, fun y hy => List.mem_append.2 (.inl (b4 y hy)), fun y hy m hm z hz => ?_, fun j y hj hy => ?_⟩
  · rcases mem_putI.1 hy with e | e
    · subst e; exact hrx
    · exact b2 y e
  · rcases List.mem_append.1 hy with e | e
    · exact b3 y e m hm
    · exact .step hrx hn e hm
  · rcases mem_putI.1 hy with e | e
    · subst e; rw [hn] at hm; cases hm; exact List.mem_append.2 (.inr hz)
    · exact List.mem_append.2 (.inl (b5 y e m hm z hz))
  · rw [List.getElem?_append_left (by omega)] at hy
    by_cases e : j = i
    · subst e; rw [hx] at hy; cases hy; exact .inl (mem_putI.2 (.inl rfl))
    · rcases b6 j y (by omega) hy with e | e
      · exact .inl (mem_putI.2 (.inr e))
      · exact .inr e
theorem SI_nodup {l : List ID} (h : SI l) : l.Nodup := by
  refine List.Pairwise.imp (fun {a b} hab e => ?_) h
  subst e; exact cmp_irrefl _ hab
theorem Bfs_len {g : List Nd} {roots todo out : List ID} {i : Nat} (b : Bfs g roots todo i out) : out.length ≤ g.length := by
  have := nodup_subI out (g.map (·.id)) (SI_nodup b.1) fun x hx => by
    obtain ⟨n, hn⟩ := (b.2.1 x hx).has
    have := findG_some hn
    exact List.mem_map.2 ⟨n, this.1, this.2⟩
  simpa using this
theorem Bfs_end {g : List Nd} {roots todo out : List ID} {i : Nat} (b : Bfs g roots todo i out) (hi : todo.length ≤ i) : out = reachL g roots := by
  obtain ⟨b1, b2, b3, b4, b5, b6⟩ := b
  have key : ∀ x, x ∈ todo → ∀ n, findG g x = some n → x ∈ out := fun x hx n hn => by
    obtain ⟨j, hj⟩ := List.getElem?_of_mem hx
    rcases b6 j x (Nat.lt_of_lt_of_le (List.getElem?_eq_some_iff.1 hj).1 hi) hj with e | e
    · exact e
    · rw [hn] at e; cases e
  refine SI_unique b1 (SI_reachL g roots) fun x => ?_
  rw [mem_reachL]
  refine ⟨b2 x, fun h => ?_⟩
  induction h with
  | root h1 h2 => exact key _ (b4 _ h1) _ h2
  | step h1 h2 h3 h4 ih => exact key _ (b5 _ ih _ h2 _ h3) _ h4
theorem putI_new {x : ID} : ∀ {l : List ID}, x ∉ l → (putI l x).length = l.length + 1
  | [], _ => by simp [putI]
  | y :: l, h => by
    simp only [List.mem_cons, not_or] at h
    unfold putI
    split
    · simp [putI_new h.2]
    · rw [if_neg (Ne.symm h.1)]; simp
theorem Bfs_found {g : List Nd} {roots todo out : List ID} {i : Nat} (b : Bfs g roots todo i out) : SI out := b.1
attribute [local irreducible] Bfs
end Go.Proofs.YtfhoecgiahpddaaGreat
/-
  CONTRACTS: what a graph reaches, as the reference finds it (refmeshref16.Reachable).
-/
set_option linter.all false
namespace Go.Proofs.YtfhoecgiahpddaaGreat
open Go.Mesh Go.RowKit
set_option maxRecDepth 100000
set_option linter.unusedVariables false
set_option maxHeartbeats 4000000
attribute [local irreducible] WP OPS ANY ANYo LG LV FSpec PSpec QOP OPc OPw thenQ blockQ roundQ roundF retQ retM Rd At SLB OS cmpI orI cmpID namedB valB nodeB kindB validG valAux idxI findG zeroV viewOf vwAt idxOf recv flyB scionOf moveOf numberedOf idOf valueOf mget mput localB carriedB msgB sizesB smallV fewB stubOf followF followOf flOf flightsOf flPre setL minusL compactL putI mergeN insN insAll unionR NMap Coll retN bodyS GMap Dfs refsV refsOf reachL movedOf movedG graphParts graphR isMove flightIDs mailIDs viewIDs rawRoots rootsR refFl refMoved Bfs
theorem refsOf_empty (i : ID) (kd cl : Int) : refsOf ⟨i, kd, cl, []⟩ = [] := by
  rw [refsOf]; split
  · rfl
  · exact refsV_nil
theorem refsOf_len (i : ID) (kd cl : Int) (fs : List Val) : (refsOf ⟨i, kd, cl, fs⟩).length ≤ fs.length := by
  rw [refsOf]; split
  · simp
  · exact refsV_length fs
theorem refReach_s {h : Frag} {g : List Nd} {us : List Value} {a : Value} {roots : List ID} (hg : GraphC 4398046511104 h g us) (hr : SL h 2 IDC a roots) (hgl : g.length ≤ 1000000) (hrl : roots.length ≤ 1000000) (hgf : ∀ n, n ∈ g → n.fields.length ≤ 1000) :
    PSpec Tryz.prog 54 #[.agg us.toArray, a] h (fun h' v => ∃ p c, v = .slice p (reachL g roots).length c ∧ SL h' 2 IDC (.slice p (reachL g roots).length c) (reachL g roots)) := by
  obtain ⟨pg, cg, rfl, hf⟩ := hg
  obtain ⟨pr, cr, rfl⟩ := hr.slice
  refine pspec_of (vs := [.agg [Value.slice pg g.length cg].toArray, .slice pr roots.length cr]) Tryz.func54 Tryz.ntmps54 rfl rfl ?_
  (focus (refine Wr ?_; refine S_c rfl rfl rfl (C_box rfl rfl ?_); intro b0_1; refine Sm rfl ?_; refine On ?_; refine Wr ?_; refine S_c rfl rfl rfl (C_buildSlice rfl (elm rfl) (zer rfl) rfl rfl rfl rfl ?_); intro b0_2; refine Sm rfl ?_; refine On ?_; refine Wr ?_; refine S_c rfl rfl rfl (C_buildSlice rfl (elm rfl) (zer rfl) rfl rfl rfl rfl ?_); intro b0_3; refine Sm rfl ?_; refine S_w rfl rfl rfl (W_appS [] _ (OS.lit0 _ _ _ _ _) ‹_› rfl rfl rfl rfl rfl rfl (elm rfl) (zer rfl) rfl rfl (by (try simp only [lA]); omega) (by (try simp only [lA]); omega) ?_); rintro p0_4 q0_4 m0_4 o0_4; refine Sm rfl ?_; refine On ?_; refine WP_seq ?_; refine Wr ?_; refine Sm rfl ?_; refine On ?_; refine WP_block ?_))
  refine WP.perm (L2 := (b0_1, cells [.slice pg g.length cg] 27) :: (b0_2, cells [] 35) :: (m0_4 ++ [])) ?_ ?_
  · rw [List.append_nil]
    exact (List.Perm.swap _ _ _).trans (List.perm_append_comm (l₁ := [_, _]))
  (focus (refine WP_keepM [] [_] _ rfl ?_; rintro h1_k l1_k k1_k; have a1_k := at_of_keep k1_k; clear k1_k; replace hf := hf.up l1_k; replace hr := hr.up l1_k; replace o0_4 := o0_4.up l1_k))
  (refine WP_loopF (α := Nat × (List ID × Option Addr × Nat) × (List ID × Option Addr × Nat) × Hp) [2] (fun (s : Nat × (List ID × Option Addr × Nat) × (List ID × Option Addr × Nat) × Hp) => (g.length - s.2.1.1.length) * 1001 + (s.2.2.1.1.length - s.1)) (fun (s : Nat × (List ID × Option Addr × Nat) × (List ID × Option Addr × Nat) × Hp) => s.2.2.2 ++ []) (fun (s : Nat × (List ID × Option Addr × Nat) × (List ID × Option Addr × Nat) × Hp) => [(7, .int .i64 (s.1 : Int)), (6, .slice s.2.2.1.2.1 s.2.2.1.1.length s.2.2.1.2.2), (5, .slice s.2.1.2.1 s.2.1.1.length s.2.1.2.2)]) (fun hh (s : Nat × (List ID × Option Addr × Nat) × (List ID × Option Addr × Nat) × Hp) => le h1_k hh ∧ s.1 ≤ s.2.2.1.1.length ∧ Bfs g roots s.2.2.1.1 s.1 s.2.1.1 ∧ SL hh 2 IDC (.slice s.2.1.2.1 s.2.1.1.length s.2.1.2.2) s.2.1.1 ∧ s.2.1.1.length ≤ s.2.1.2.2 ∧ OS hh 35 2 IDC (.slice s.2.2.1.2.1 s.2.2.1.1.length s.2.2.1.2.2) s.2.2.1.1 s.2.2.2 ∧ s.2.2.1.1.length ≤ roots.length + s.2.1.1.length * 1000) (0, ([], some ⟨b0_2, 0, none⟩, 0), (roots, p0_4, q0_4), m0_4) ⟨_, _, rfl, rfl, rfl⟩ ?_ (by repeat' first | exact sR _ | exact sA _ _ | exact sN _ | apply s2 | apply s1) (by repeat' first | exact trivial | refine ⟨rfl, ?_⟩) ?_)
  · exact ⟨le_refl _, Nat.zero_le _, Bfs_start _ _, SLB.nil _ _ _ _ _ _, Nat.le_refl _, o0_4, by simp⟩
  clear o0_4
  rintro h2 ⟨i, ⟨out, po, co⟩, ⟨todo, pt, ct⟩, M⟩ _ ⟨hl2, hi, hB, hO, hc, hT, htl⟩
  simp only at hi hB hO hc hT htl
  dsimp only
  (replace a1_k := a1_k.up hl2; replace hf := hf.up hl2; replace hr := hr.up hl2)
  have hol := Bfs_len hB
  by_cases hlt : i < todo.length
  · obtain ⟨⟨x1, x2⟩, ex⟩ := get_of hlt
    (focus (refine WP_seq ?_; refine Wr ?_; refine Sm rfl ?_; refine Sm rfl ?_; refine S_q rfl rfl rfl (Q_len rfl rfl rfl rfl rfl rfl) ?_; refine Sc rfl rfl rfl rfl rfl rfl rfl ?_; refine On ?_; refine WP_cond rfl (fun c4_1 => ?_) (fun c4_1 => ?_) <;> (first | (simp [*] at c4_1; done) | (try simp at c4_1)); refine WP_skip ?_; refine then_n ?_; refine WP_seq ?_; refine WP_block ?_))
    refine WP_cutS (α := Nat × Option Addr × Nat) (fun hh s => hh = h2 ∧ SL h2 4 ValC (.slice s.2.1 ((findG g (x1, x2)).getD zeroN).fields.length s.2.2) ((findG g (x1, x2)).getD zeroN).fields)
      (fun s => (s.1, cells [.int .i64 ((findG g (x1, x2)).getD zeroN).id.1, .int .i64 ((findG g (x1, x2)).getD zeroN).id.2, .int .i64 ((findG g (x1, x2)).getD zeroN).kind, .int .i64 ((findG g (x1, x2)).getD zeroN).cls, .slice s.2.1 ((findG g (x1, x2)).getD zeroN).fields.length s.2.2] 38) :: (M ++ []))
      (fun s => [(8, ptr s.1 0), (9, .bool (findG g (x1, x2)).isSome), (7, .int .i64 (i : Int)), (6, .slice pt todo.length ct), (5, .slice po out.length co), (2, ptr b0_1 0)]) ?_ ?_
    · (focus (refine R_draw (n := 12) mixed rfl ?_; refine A_at 0 rfl rfl ?_; refine A_load (m' := 1) rfl rfl rfl rfl rfl rfl (by decide +kernel) ?_; refine L_agg (Rd.pers ‹_›) (ty rfl) (by first | rfl | assumption) ?_; refine A_at 1 rfl rfl ?_; refine A_q (m' := 3) rfl rfl rfl (Q_move rfl rfl) rfl (by decide +kernel) ?_; refine A_at 2 rfl rfl ?_; refine A_q (m' := 7) rfl rfl rfl (Q_move rfl rfl) rfl (by decide +kernel) ?_; refine A_at 3 rfl rfl ?_; refine A_q (m' := 15) rfl rfl rfl (Q_indexO ‹_› ‹_› rfl rfl rfl (elm rfl) rfl) rfl (by decide +kernel) ?_; refine A_at 4 rfl rfl ?_; refine A_load (m' := 31) rfl rfl rfl rfl rfl rfl (by decide +kernel) ?_; refine L_oelA [] _ ‹_› ‹_› rfl (ty rfl) ?_; rintro _ _ _ rfl; refine A_two 5 9 (mi := 63) (mj := 543) rfl rfl (by decide +kernel) rfl rfl ?_ ?_; (focus (refine T_at rfl ?_; refine T_cO rfl rfl rfl (C_call0 (refFind_s ⟨_, _, rfl, by assumption⟩) rfl rfl ⟨_, _, rfl, ⟨_, _, rfl, rfl, rfl⟩, rfl⟩ (cal rfl) ?_); rintro _ ⟨cv5_2, rfl, cl5_2, co5_2, ⟨pn5_2, qn5_2, rfl, fn5_2⟩⟩; refine A_at 6 rfl rfl ?_; refine A_q (m' := 127) rfl rfl rfl (Q_move rfl rfl) rfl (by decide +kernel) ?_; refine A_at 7 rfl rfl ?_; refine A_q (m' := 255) rfl rfl rfl (Q_extract rfl rfl rfl) rfl (by decide +kernel) ?_; refine A_at 8 rfl rfl ?_; refine A_qp (m' := 511) rfl rfl rfl (Q_extract rfl rfl rfl) rfl (by decide +kernel) ?_; refine A_at 9 rfl rfl ?_; refine A_c (m' := 1023) rfl rfl rfl rfl (by decide +kernel) (C_alloc rfl (zer rfl) ?_); intro b5_3; refine A_at 10 rfl rfl ?_; refine A_w0 (m' := 2047) rfl rfl rfl rfl (by decide +kernel) (W_all rfl rfl rfl (ty rfl) u0 (by first | rfl | assumption) (by first | rfl | assumption) (by first | rfl | assumption | exact ones_sub ‹_› _ _) ?_); refine A_at 11 rfl rfl ?_; refine A_q (m' := 4095) rfl rfl rfl (Q_assign rfl rfl) rfl (by decide +kernel) ?_; refine A_done (by decide +kernel) ?_)); rotate_left 1; (focus (refine T_at rfl ?_; refine T_cO rfl rfl rfl (C_alloc rfl (zer rfl) ?_); intro b5_4; refine A_at 5 rfl rfl ?_; refine A_c (m' := 575) rfl rfl rfl rfl (by decide +kernel) (C_call0 (refFind_s ⟨_, _, rfl, by assumption⟩) rfl rfl ⟨_, _, rfl, ⟨_, _, rfl, rfl, rfl⟩, rfl⟩ (cal rfl) ?_); rintro _ ⟨cv5_5, rfl, cl5_5, co5_5, ⟨pn5_5, qn5_5, rfl, fn5_5⟩⟩; refine A_at 6 rfl rfl ?_; refine A_q (m' := 639) rfl rfl rfl (Q_move rfl rfl) rfl (by decide +kernel) ?_; refine A_at 7 rfl rfl ?_; refine A_q (m' := 767) rfl rfl rfl (Q_extract rfl rfl rfl) rfl (by decide +kernel) ?_; refine A_at 8 rfl rfl ?_; refine A_qp (m' := 1023) rfl rfl rfl (Q_extract rfl rfl rfl) rfl (by decide +kernel) ?_; refine A_at 10 rfl rfl ?_; refine A_w0 (m' := 2047) rfl rfl rfl rfl (by decide +kernel) (W_all rfl rfl rfl (ty rfl) u0 (by first | rfl | assumption) (by first | rfl | assumption) (by first | rfl | assumption | exact ones_sub ‹_› _ _) ?_); refine A_at 11 rfl rfl ?_; refine A_q (m' := 4095) rfl rfl rfl (Q_assign rfl rfl) rfl (by decide +kernel) ?_; refine A_done (by decide +kernel) ?_)); rotate_left 1))
      · exact ⟨rfl, rfl, (b5_3, pn5_2, qn5_2), ⟨rfl, fn5_2⟩, (by repeat' first | exact sR _ | exact sA _ _ | exact sN _ | apply s2 | apply s1), (by repeat' first | exact trivial | refine ⟨rfl, ?_⟩)⟩
      · exact ⟨rfl, rfl, (b5_4, pn5_5, qn5_5), ⟨rfl, fn5_5⟩, (by repeat' first | exact sR _ | exact sA _ _ | exact sN _ | apply s2 | apply s1), (by repeat' first | exact trivial | refine ⟨rfl, ?_⟩)⟩
    rintro h3 ⟨b, pn, qn⟩ _ ⟨rfl, hN⟩
    simp only at hN
    dsimp only
    cases hfd : findG g (x1, x2) with
    | none =>
      rw [hfd] at hN
      (focus (refine WP_seq ?_; refine Wr ?_; refine Sm rfl ?_; refine S_q rfl rfl rfl (Q_not rfl rfl) ?_; refine Sm rfl ?_; refine S_gsplit rfl rfl rfl rfl (fun c6_1 => ?_) (fun c6_1 => ?_) <;> (first | (simp [*] at c6_1; done) | (try simp at c6_1)); refine Sn rfl ?_; refine Sn rfl ?_; refine Sn rfl ?_; refine Sn rfl ?_; refine S_q rfl rfl rfl (Q_pick_t rfl rfl rfl) ?_; refine On ?_; refine cond_t rfl ?_; refine WP_exit ?_; refine then_e ?_; refine block_e ?_; refine then_n ?_; refine R_region ?_; refine Sm rfl ?_; refine S_q rfl rfl rfl (Q_add rfl rfl rfl (by omega)) ?_; refine Sm rfl ?_; refine OPS_nil ?_))
      exact roundF_n (i + 1, (out, po, co), (todo, pt, ct), M) (by simp only; omega) ⟨hl2, by simp only; omega, Bfs_skip hB ex (.inr hfd), hO, hc, hT, htl⟩ (by repeat' first | exact sR _ | exact sA _ _ | exact sN _ | apply s2 | apply s1) (by repeat' first | exact trivial | refine ⟨rfl, ?_⟩)
    | some n =>
      rw [hfd] at hN
      have hnf := hgf n (findG_some hfd).1
      have hni := (findG_some hfd).2
      obtain ⟨⟨n1, n2⟩, kd, cl, fs⟩ := n
      simp only [Option.getD_some] at hni hnf hN ⊢
      cases hni
      by_cases hin : (x1, x2) ∈ out
      · (focus (refine WP_seq ?_; refine Wr ?_; refine Sm rfl ?_; refine S_q rfl rfl rfl (Q_not rfl rfl) ?_; refine Sm rfl ?_; refine S_gsplit rfl rfl rfl rfl (fun c7_1 => ?_) (fun c7_1 => ?_) <;> (first | (simp [*] at c7_1; done) | (try simp at c7_1)); refine S_gq rfl rfl rfl rfl rfl rfl (Q_move rfl rfl) ?_; refine S_gq rfl rfl rfl rfl rfl rfl (Q_fieldAddr rfl rfl (fld rfl rfl)) ?_; refine S_gload rfl rfl rfl rfl rfl rfl rfl rfl ?_; refine L_sub (Rd.own m0) (ty rfl) rfl ?_; refine S_gc rfl rfl rfl rfl rfl rfl (C_callv (hasID_s (x := (_, _)) ‹_›) rfl rfl ⟨_, _, rfl, ⟨_, _, rfl, rfl, rfl⟩, rfl⟩ (cal rfl) ?_); refine S_q rfl rfl rfl (Q_pick_f rfl rfl rfl) ?_; refine On ?_; refine WP_cond rfl (fun c7_2 => ?_) (fun c7_2 => ?_) <;> (first | (simp [*] at c7_2; done) | (try simp at c7_2)); refine WP_exit ?_; refine then_e ?_; refine block_e ?_; refine then_n ?_; refine R_region ?_; refine Sm rfl ?_; refine S_q rfl rfl rfl (Q_add rfl rfl rfl (by omega)) ?_; refine Sm rfl ?_; refine OPS_nil ?_))
        exact roundF_n (i + 1, (out, po, co), (todo, pt, ct), M) (by simp only; omega) ⟨hl2, by simp only; omega, Bfs_skip hB ex (.inl hin), hO, hc, hT, htl⟩ (by repeat' first | exact sR _ | exact sA _ _ | exact sN _ | apply s2 | apply s1) (by repeat' first | exact trivial | refine ⟨rfl, ?_⟩)
      have hadd := Bfs_add hB ex hfd
      have hpl := putI_new hin
      have hal := Bfs_len hadd
      (focus (refine WP_seq ?_; refine Wr ?_; refine Sm rfl ?_; refine S_q rfl rfl rfl (Q_not rfl rfl) ?_; refine Sm rfl ?_; refine S_gsplit rfl rfl rfl rfl (fun c8_1 => ?_) (fun c8_1 => ?_) <;> (first | (simp [*] at c8_1; done) | (try simp at c8_1)); refine S_gq rfl rfl rfl rfl rfl rfl (Q_move rfl rfl) ?_; refine S_gq rfl rfl rfl rfl rfl rfl (Q_fieldAddr rfl rfl (fld rfl rfl)) ?_; refine S_gload rfl rfl rfl rfl rfl rfl rfl rfl ?_; refine L_sub (Rd.own m0) (ty rfl) rfl ?_; refine S_gc rfl rfl rfl rfl rfl rfl (C_callv (hasID_s (x := (_, _)) ‹_›) rfl rfl ⟨_, _, rfl, ⟨_, _, rfl, rfl, rfl⟩, rfl⟩ (cal rfl) ?_); refine S_q rfl rfl rfl (Q_pick_f rfl rfl rfl) ?_; refine On ?_; refine WP_cond rfl (fun c8_2 => ?_) (fun c8_2 => ?_) <;> (first | (simp [*] at c8_2; done) | (try simp at c8_2)); refine WP_skip ?_; refine then_n ?_; refine Wr ?_; refine Sm rfl ?_; refine Sf rfl rfl rfl rfl rfl (fld rfl rfl) ?_; refine S_load rfl rfl rfl rfl rfl ?_; refine L_sub (Rd.own m0) (ty rfl) rfl ?_; refine S_c rfl rfl rfl (C_call (putID_s (x := (_, _)) ‹_› (by omega) (by omega)) rfl rfl ⟨_, _, rfl, ⟨_, _, rfl, rfl, rfl⟩, rfl⟩ (cal rfl) ?_); rintro h8_3 _ l8_3 ⟨p8_3, q8_3, rfl, f8_3, g8_3⟩; replace hO := hO.up l8_3; replace hT := hT.up l8_3; replace a1_k := a1_k.up l8_3; replace hf := hf.up l8_3; replace hr := hr.up l8_3; replace hN := hN.up l8_3; refine Sm rfl ?_; refine On ?_; refine Wr ?_; refine Sm rfl ?_; refine On ?_; refine WP_block ?_))
      (refine WP_loopM (α := Nat × List ID × Option Addr × Nat × Hp) [_]  _ [5, 8, 7, 2] (fun (s : Nat × List ID × Option Addr × Nat × Hp) => fs.length - s.1) (fun (s : Nat × List ID × Option Addr × Nat × Hp) =>  s.2.2.2.2) (fun (s : Nat × List ID × Option Addr × Nat × Hp) => [(10, .int .i64 (s.1 : Int)), (6, .slice s.2.2.1 s.2.1.length s.2.2.2.1)]) (fun hh (s : Nat × List ID × Option Addr × Nat × Hp) => hh = h8_3 ∧ s.1 ≤ fs.length ∧ s.2.1 = todo ++ refsOf ⟨(x1, x2), kd, cl, fs.take s.1⟩ ∧ OS h8_3 35 2 IDC (.slice s.2.2.1 s.2.1.length s.2.2.2.1) s.2.1 s.2.2.2.2) (0, todo, pt, ct, M) rfl ⟨_, _, rfl, ⟨_, _, rfl, ⟨_, _, rfl, ⟨_, _, rfl, rfl, rfl⟩, rfl⟩, rfl⟩, rfl⟩ (by repeat' first | exact trivial | refine ⟨rfl, ?_⟩) ?_ ?_)
      · refine ⟨rfl, Nat.zero_le _, ?_, hT⟩
        simp only; rw [List.take_zero, refsOf_empty, List.append_nil]
      clear hT
      rintro h4 ⟨k, td, pt2, ct2, M2⟩ _ ⟨rfl, hk, htd, hT⟩
      simp only at hk htd hT
      dsimp only
      have htdl : td.length ≤ todo.length + k := by
        have := refsOf_len (x1, x2) kd cl (fs.take k)
        rw [List.length_take] at this
        rw [htd, List.length_append]; omega
      by_cases hw : kd = 2
      · rw [refsOf_weak hw, List.append_nil] at htd hadd
        subst htd
        (focus (refine WP_seq ?_; refine Wr ?_; refine Sm rfl ?_; refine Sf rfl rfl rfl rfl rfl (fld rfl rfl) ?_; refine S_load rfl rfl rfl rfl rfl ?_; refine L_fld (Rd.own m0) (ty rfl) rfl ?_; refine S_q rfl rfl rfl (Q_len rfl rfl rfl rfl rfl rfl) ?_; refine Sc rfl rfl rfl rfl rfl rfl rfl ?_; refine Sm rfl ?_; refine S_gsplit rfl rfl rfl rfl (fun c10_1 => ?_) (fun c10_1 => ?_) <;> (first | (simp [*] at c10_1; done) | (try simp at c10_1)); (focus (refine S_gq rfl rfl rfl rfl rfl rfl (Q_fieldAddr rfl rfl (fld rfl rfl)) ?_; refine S_gload rfl rfl rfl rfl rfl rfl rfl rfl ?_; refine L_fld (Rd.own m0) (ty rfl) rfl ?_; refine S_gq rfl rfl rfl rfl rfl rfl (Q_cmp rfl rfl rfl rfl) ?_; refine S_q rfl rfl rfl (Q_pick_t rfl rfl rfl) ?_; refine On ?_; refine WP_cond rfl (fun c10_2 => ?_) (fun c10_2 => ?_) <;> (first | (simp [*] at c10_2; done) | (try simp at c10_2)); refine WP_exit ?_; refine then_e ?_; refine roundF_e ?_; refine block_e ?_; refine block_n ?_; refine then_n ?_; refine R_region ?_; refine Sm rfl ?_; refine S_q rfl rfl rfl (Q_add rfl rfl rfl (by omega)) ?_; refine Sm rfl ?_; refine OPS_nil ?_)); rotate_left 1; (focus (refine Sn rfl ?_; refine Sn rfl ?_; refine Sn rfl ?_; refine S_q rfl rfl rfl (Q_pick_f rfl rfl rfl) ?_; refine On ?_; refine cond_f rfl ?_; refine WP_exit ?_; refine then_e ?_; refine roundF_e ?_; refine block_e ?_; refine block_n ?_; refine then_n ?_; refine R_region ?_; refine Sm rfl ?_; refine S_q rfl rfl rfl (Q_add rfl rfl rfl (by omega)) ?_; refine Sm rfl ?_; refine OPS_nil ?_)); rotate_left 1))
        all_goals exact roundF_n (i + 1, (putI out (x1, x2), p8_3, q8_3), (td, pt2, ct2), M2) (by simp only; omega) ⟨le_trans hl2 l8_3, by simp only; omega, hadd, f8_3, g8_3, hT, by simp only; omega⟩ (by repeat' first | exact sR _ | exact sA _ _ | exact sN _ | apply s2 | apply s1) (by repeat' first | exact trivial | refine ⟨rfl, ?_⟩)
      by_cases hlt2 : k < fs.length
      · obtain ⟨⟨v1, v2, v3, v4⟩, ev⟩ := get_of hlt2
        have htk := refsV_take ev
        rw [refsOf_plain hw] at htd
        simp only at htd
        (focus (refine WP_seq ?_; refine Wr ?_; refine Sm rfl ?_; refine Sf rfl rfl rfl rfl rfl (fld rfl rfl) ?_; refine S_load rfl rfl rfl rfl rfl ?_; refine L_fld (Rd.own m0) (ty rfl) rfl ?_; refine S_q rfl rfl rfl (Q_len rfl rfl rfl rfl rfl rfl) ?_; refine Sc rfl rfl rfl rfl rfl rfl rfl ?_; refine Sm rfl ?_; refine S_gsplit rfl rfl rfl rfl (fun c11_1 => ?_) (fun c11_1 => ?_) <;> (first | (simp [*] at c11_1; done) | (try simp at c11_1)); refine S_gq rfl rfl rfl rfl rfl rfl (Q_fieldAddr rfl rfl (fld rfl rfl)) ?_; refine S_gload rfl rfl rfl rfl rfl rfl rfl rfl ?_; refine L_fld (Rd.own m0) (ty rfl) rfl ?_; refine S_gq rfl rfl rfl rfl rfl rfl (Q_cmp rfl rfl rfl rfl) ?_; refine S_q rfl rfl rfl (Q_pick_t rfl rfl rfl) ?_; refine On ?_; refine WP_cond rfl (fun c11_2 => ?_) (fun c11_2 => ?_) <;> (first | (simp [*] at c11_2; done) | (try simp at c11_2)); refine WP_skip ?_; refine then_n ?_; refine WP_seq ?_; refine WP_block ?_; refine Wr ?_; refine Sf rfl rfl rfl rfl rfl (fld rfl rfl) ?_; refine S_load rfl rfl rfl rfl rfl ?_; refine L_fld (Rd.own m0) (ty rfl) rfl ?_; refine Sm rfl ?_; refine S_q rfl rfl rfl (Q_indexS ‹_› ‹_› rfl rfl rfl (elm rfl) rfl) ?_; refine Sf rfl rfl rfl rfl rfl (fld rfl rfl) ?_; refine S_load rfl rfl rfl rfl rfl ?_; refine L_elF ‹_› ‹_› ?_; rintro _ _ _ rfl; refine LV_1 (ty rfl) rfl ?_; refine Sc rfl rfl rfl rfl rfl rfl rfl ?_; refine On ?_; refine WP_cond rfl (fun c11_4 => ?_) (fun c11_4 => ?_) <;> (first | (simp [*] at c11_4; done) | (try simp at c11_4)); (focus (refine R_region ?_; refine Sm rfl ?_; refine Sf rfl rfl rfl rfl rfl (fld rfl rfl) ?_; refine S_load rfl rfl rfl rfl rfl ?_; refine L_fld (Rd.own m0) (ty rfl) rfl ?_; refine Sm rfl ?_; refine S_q rfl rfl rfl (Q_indexS ‹_› ‹_› rfl rfl rfl (elm rfl) rfl) ?_; refine Sf rfl rfl rfl rfl rfl (fld rfl rfl) ?_; refine S_load rfl rfl rfl rfl rfl ?_; refine L_elF ‹_› ‹_› ?_; rintro _ _ _ rfl; refine LV_a (ty rfl) rfl ?_; refine S_c rfl rfl rfl (C_buildSlice rfl (elm rfl) (zer rfl) rfl ⟨_, _, _, rfl, rfl, rfl, rfl, rfl, rfl⟩ rfl rfl ?_); intro b11_6; refine S_w rfl rfl rfl (W_app1 [_] _ hT rfl rfl rfl rfl rfl rfl (elm rfl) (zer rfl) rfl rfl rfl rfl rfl (by (try simp only [lA]); omega) (by (try simp only [lA]); omega) ?_); rintro p11_7 q11_7 m11_7 o11_7; refine Sm rfl ?_; refine OPS_nil ?_; refine block_n ?_; refine then_n ?_; refine R_region ?_; refine Sm rfl ?_; refine S_q rfl rfl rfl (Q_add rfl rfl rfl (by omega)) ?_; refine Sm rfl ?_; refine OPS_nil ?_)); rotate_left 1; (focus (refine WP_skip ?_; refine block_n ?_; refine then_n ?_; refine R_region ?_; refine Sm rfl ?_; refine S_q rfl rfl rfl (Q_add rfl rfl rfl (by omega)) ?_; refine Sm rfl ?_; refine OPS_nil ?_)); rotate_left 1))
        · rw [if_pos c11_4] at htk
          refine roundF_n (k + 1, td ++ [(v3, v4)], p11_7, q11_7, m11_7) (by simp only; omega) ⟨rfl, by simp only; omega, ?_, o11_7⟩ (by repeat' first | exact sR _ | exact sA _ _ | exact sN _ | apply s2 | apply s1) (by repeat' first | exact trivial | refine ⟨rfl, ?_⟩)
          simp only; rw [refsOf_plain hw]; simp only; rw [htk, htd, List.append_assoc]
        · rw [if_neg c11_4, List.append_nil] at htk
          refine roundF_n (k + 1, td, pt2, ct2, M2) (by simp only; omega) ⟨rfl, by simp only; omega, ?_, hT⟩ (by repeat' first | exact sR _ | exact sA _ _ | exact sN _ | apply s2 | apply s1) (by repeat' first | exact trivial | refine ⟨rfl, ?_⟩)
          simp only; rw [refsOf_plain hw]; simp only; rw [htk, htd]
      have hge2 : k = fs.length := by omega
      subst hge2
      rw [List.take_length] at htd
      rw [← htd] at hadd
      have hbl : todo.length ≤ td.length := by rw [htd, List.length_append]; omega
      (focus (refine WP_seq ?_; refine Wr ?_; refine Sm rfl ?_; refine Sf rfl rfl rfl rfl rfl (fld rfl rfl) ?_; refine S_load rfl rfl rfl rfl rfl ?_; refine L_fld (Rd.own m0) (ty rfl) rfl ?_; refine S_q rfl rfl rfl (Q_len rfl rfl rfl rfl rfl rfl) ?_; refine Sc rfl rfl rfl rfl rfl rfl rfl ?_; refine Sm rfl ?_; refine S_gsplit rfl rfl rfl rfl (fun c12_1 => ?_) (fun c12_1 => ?_) <;> (first | (simp [*] at c12_1; done) | (try simp at c12_1)); refine Sn rfl ?_; refine Sn rfl ?_; refine Sn rfl ?_; refine S_q rfl rfl rfl (Q_pick_f rfl rfl rfl) ?_; refine On ?_; refine cond_f rfl ?_; refine WP_exit ?_; refine then_e ?_; refine roundF_e ?_; refine block_e ?_; refine block_n ?_; refine then_n ?_; refine R_region ?_; refine Sm rfl ?_; refine S_q rfl rfl rfl (Q_add rfl rfl rfl (by omega)) ?_; refine Sm rfl ?_; refine OPS_nil ?_))
      exact roundF_n (i + 1, (putI out (x1, x2), p8_3, q8_3), (td, pt2, ct2), M2) (by simp only; omega) ⟨le_trans hl2 l8_3, by simp only; omega, hadd, f8_3, g8_3, hT, by simp only; omega⟩ (by repeat' first | exact sR _ | exact sA _ _ | exact sN _ | apply s2 | apply s1) (by repeat' first | exact trivial | refine ⟨rfl, ?_⟩)
  have hge : i = todo.length := by omega
  subst hge
  have he := Bfs_end hB (Nat.le_refl _)
  (focus (refine WP_seq ?_; refine Wr ?_; refine Sm rfl ?_; refine Sm rfl ?_; refine S_q rfl rfl rfl (Q_len rfl rfl rfl rfl rfl rfl) ?_; refine Sc rfl rfl rfl rfl rfl rfl rfl ?_; refine On ?_; refine WP_cond rfl (fun c13_1 => ?_) (fun c13_1 => ?_) <;> (first | (simp [*] at c13_1; done) | (try simp at c13_1)); refine WP_exit ?_; refine then_e ?_; refine roundF_e ?_; refine block_e ?_; refine then_n ?_; refine Wr ?_; refine Sm rfl ?_; refine Sm rfl ?_; refine On ?_; refine WP_ret ?_))
  refine pret (.inl rfl) rfl ⟨_, _, rfl, rfl, rfl⟩ ?_
  rw [← he]; exact ⟨_, _, rfl, hO⟩
end Go.Proofs.YtfhoecgiahpddaaGreat
/-
  CONTRACTS: observer.Reachable, observer.Garbage, observer.Home.
-/
set_option linter.all false
namespace Go.Proofs.YtfhoecgiahpddaaGreat
open Go.Mesh Go.RowKit
set_option maxRecDepth 100000
set_option linter.unusedVariables false
set_option maxHeartbeats 4000000
attribute [local irreducible] WP OPS ANY ANYo LG LV FSpec PSpec QOP OPc OPw thenQ blockQ roundQ roundF retQ retM Rd At SLB OS cmpI orI cmpID namedB valB nodeB kindB validG valAux idxI findG zeroV viewOf vwAt idxOf recv flyB scionOf moveOf numberedOf idOf valueOf mget mput localB carriedB stubOf followF followOf flOf flightsOf flPre setL minusL compactL putI mergeN insN insAll unionR NMap Coll retN bodyS GMap Dfs refsV refsOf reachL movedOf movedG graphParts graphR isMove flightIDs mailIDs viewIDs rawRoots rootsR
theorem mergeN_or {o n m : Nd} (h : mergeN o n = some m) : m = o ∨ m = n := by
  unfold mergeN at h
  grind
theorem insN_mem {l l' : List Nd} {n : Nd} (hs : SN l) (h : insN l n = some l') : SN l' ∧ l'.length ≤ l.length + 1 ∧ ∀ z, z ∈ l' → z = n ∨ z ∈ l := by
  have k := insN_spec (n := n) hs
  cases hf : findG l n.id with
  | none =>
    rw [hf] at k
    obtain ⟨l2, e1, e2, e3, e4, _⟩ := k
    rw [h] at e1; cases e1
    exact ⟨e2, by omega, e4⟩
  | some o =>
    rw [hf] at k
    cases hm : mergeN o n with
    | none => simp only [hm] at k; rw [h] at k; cases k
    | some m =>
      simp only [hm] at k
      obtain ⟨l2, e1, e2, e3, e4, _⟩ := k
      rw [h] at e1; cases e1
      refine ⟨e2, by omega, fun z hz => ?_⟩
      rcases e4 z hz with rfl | hz
      · rcases mergeN_or hm with rfl | rfl
        · exact .inr (findG_some hf).1
        · exact .inl rfl
      · exact .inr hz
theorem insAll_mem : ∀ {r acc l' : List Nd}, SN acc → insAll acc r = some l' → SN l' ∧ l'.length ≤ acc.length + r.length ∧ ∀ z, z ∈ l' → z ∈ acc ∨ z ∈ r
  | [], acc, l', hs, h => by
    unfold insAll at h
    cases h
    exact ⟨hs, by simp, fun z hz => .inl hz⟩
  | n :: r, acc, l', hs, h => by
    unfold insAll at h
    cases hi : insN acc n with
    | none => rw [hi] at h; cases h
    | some a =>
      rw [hi] at h
      obtain ⟨h1, h2, h3⟩ := insN_mem hs hi
      obtain ⟨k1, k2, k3⟩ := insAll_mem h1 h
      refine ⟨k1, by simp only [List.length_cons]; omega, fun z hz => ?_⟩
      rcases k3 z hz with hz | hz
      · rcases h3 z hz with rfl | hz
        · exact .inr (by simp)
        · exact .inl hz
      · exact .inr (by simp [hz])
theorem unionR_mem (l : List (List Nd)) : SN (unionR l).1 ∧ (unionR l).1.length ≤ l.flatten.length ∧ ∀ z, z ∈ (unionR l).1 → z ∈ l.flatten := by
  unfold unionR
  split
  · cases hi : insAll [] l.flatten with
    | none => exact ⟨by simp [resU, SN], by simp [resU], by simp [resU]⟩
    | some a =>
      obtain ⟨k1, k2, k3⟩ := insAll_mem List.Pairwise.nil hi
      refine ⟨k1, by simpa [resU] using k2, fun z hz => ?_⟩
      rcases k3 z hz with h | h
      · simp at h
      · exact h
  · exact ⟨by simp [SN], by simp, by simp⟩
theorem Small.graph {vs : List View} (s : Small vs) : SN (graphR vs).1 ∧ (graphR vs).1.length ≤ 1000000 ∧ ∀ n, n ∈ (graphR vs).1 → n.fields.length ≤ 1000 := by
  obtain ⟨h1, h2, h3⟩ := unionR_mem (graphParts vs)
  rw [graphR]
  refine ⟨h1, Nat.le_trans h2 s.parts, fun n hn => ?_⟩
  have := h3 n hn
  rw [graphParts, List.flatten_append, List.mem_append] at this
  rcases this with h | h
  · simp only [List.mem_flatten, List.mem_map] at h
    obtain ⟨_, ⟨v, hv, rfl⟩, hn⟩ := h
    have := s.fields v hv n hn; omega
  · simp only [movedG, List.mem_flatten, List.mem_map, List.mem_filter] at h
    obtain ⟨_, ⟨i, ⟨hi, _⟩, rfl⟩, hn⟩ := h
    obtain ⟨hv, hx⟩ := flightsOf_mem hi
    have := s.moved _ hv _ hx
    simp only [List.mem_singleton] at hn
    subst hn
    simp only [movedOf, List.length_map]; omega
/-- what the fleet reaches -/
noncomputable def reachR (vs : List View) : List ID := if (graphR vs).2 = 0 then reachL (graphR vs).1 (rootsR vs) else []
theorem Small.reach {vs : List View} (s : Small vs) : (reachR vs).length ≤ 1000000 := by
  unfold reachR
  split
  · exact Nat.le_trans (reachL_length _ _) s.graph.2.1
  · simp
attribute [local irreducible] reachR
theorem reachable_s {h : Frag} {a : Value} {vs : List View} (hs : SL h 13 (ViewC 4398046511104) a vs) (sm : Small vs) : PSpec Tryz.prog 12 #[a] h (fun h' v => ∃ p c, v = .slice p (reachR vs).length c ∧ SL h' 2 IDC (.slice p (reachR vs).length c) (reachR vs)) := by
  obtain ⟨_, hgl, hgf⟩ := sm.graph
  have hrl := roots_len sm
  have hrr := sm.reach
  refine pspec_of (vs := [a]) Tryz.func12 Tryz.ntmps12 rfl rfl ?_
  (focus (refine Wr ?_; refine Sm rfl ?_; refine On ?_; refine Wr ?_; refine Sm rfl ?_; refine S_c rfl rfl rfl (C_call (graph_s ‹_› ‹_›) rfl rfl ⟨_, _, rfl, rfl, rfl⟩ (cal rfl) ?_); rintro h0_1 _ l0_1 ⟨_, rfl, pg0_1, qg0_1, rfl, fg0_1⟩; replace hs := hs.up l0_1; refine Sm rfl ?_; refine S_q rfl rfl rfl (Q_extract rfl rfl rfl) ?_; refine S_q rfl rfl rfl (Q_extract rfl rfl rfl) ?_; refine S_c rfl rfl rfl (C_alloc rfl (zer rfl) ?_); intro b0_2; refine S_w0 rfl rfl (W_all rfl rfl rfl (ty rfl) u0 (by first | rfl | assumption) (by first | rfl | assumption) (by first | rfl | assumption | exact ones_sub ‹_› _ _) ?_); refine Sm rfl ?_; refine On ?_; refine WP_seq ?_; refine Wr ?_; refine Sm rfl ?_; refine Sc rfl rfl rfl rfl rfl rfl rfl ?_; refine On ?_; refine WP_cond rfl (fun c0_3 => ?_) (fun c0_3 => ?_) <;> (first | (simp [*] at c0_3; done) | (try simp at c0_3)); (focus (refine Wr ?_; refine Sm rfl ?_; refine On ?_; refine WP_ret ?_; refine then_r ?_)); rotate_left 1; (focus (refine WP_skip ?_; refine then_n ?_; refine WP_seq ?_; refine R_draw (n := 5) mixed rfl ?_; refine A_at 0 rfl rfl ?_; refine A_load (m' := 1) rfl rfl rfl rfl rfl rfl (by decide +kernel) ?_; refine L_agg (Rd.own m0) (ty rfl) (by first | rfl | assumption) ?_; refine A_at 1 rfl rfl ?_; refine A_q (m' := 3) rfl rfl rfl (Q_move rfl rfl) rfl (by decide +kernel) ?_; refine A_at 2 rfl rfl ?_; refine A_c (m' := 7) rfl rfl rfl rfl (by decide +kernel) (C_call (roots_s ‹_› ‹_›) rfl rfl ⟨_, _, rfl, rfl, rfl⟩ (cal rfl) ?_); rintro h0_4 _ l0_4 ⟨p0_4, q0_4, rfl, f0_4⟩; replace fg0_1 := fg0_1.up l0_4; replace hs := hs.up l0_4; refine A_at 3 rfl rfl ?_; refine A_c (m' := 15) rfl rfl rfl rfl (by decide +kernel) (C_callF (reach_s ⟨_, _, rfl, by assumption⟩ ‹_› (by omega) (by omega) ‹_›) rfl rfl ⟨_, _, rfl, ⟨_, _, rfl, rfl, rfl⟩, rfl⟩ (cal rfl) ?_); rintro h0_5 m0_5 _ l0_5 ⟨p0_5, q0_5, rfl, o0_5⟩; replace f0_4 := f0_4.up l0_5; replace fg0_1 := fg0_1.up l0_5; replace hs := hs.up l0_5; refine A_at 4 rfl rfl ?_; refine A_q (m' := 31) rfl rfl rfl (Q_assign rfl rfl) rfl (by decide +kernel) ?_; refine A_done (by decide +kernel) ?_; refine then_n ?_; refine WP_ret ?_)); rotate_left 1))
  · refine pret (.inl rfl) rfl ⟨_, _, rfl, rfl, rfl⟩ ?_
    rw [reachR, if_neg c0_3]
    exact ⟨_, _, rfl, SLB.nil _ _ _ _ _ _⟩
  · have hre : reachR vs = reachL (graphR vs).1 (rootsR vs) := by rw [reachR, if_pos c0_3]
    rw [hre] at hrr ⊢
    refine pretKM [] m0_5 _ rfl (.inl rfl) rfl ⟨_, _, rfl, rfl, rfl⟩ fun h' hl' hm => ?_
    exact ⟨_, _, rfl, o0_5.sl hl' IDC_mono hm (by omega)⟩
/-- how many are not reached -/
noncomputable def deadN (live : List ID) (l : List ID) : Nat := (l.filter fun x => !decide (x ∈ live)).length
def objsL (l : List Nd) : List ID := (l.filter fun n => decide (n.kind ≠ 3)).map (·.id)
def viewObjs (v : View) : List ID := objsL v.objects
noncomputable def garbageOf (live : List ID) (v : View) : Nat := deadN live (viewObjs v) + deadN live (v.stubs.map (·.id)) + deadN live (v.scions.map (·.id))
noncomputable def garbageR (vs : List View) : Nat := (vs.map (garbageOf (reachR vs))).sum
theorem deadN_nil (live : List ID) : deadN live [] = 0 := rfl
theorem deadN_snoc (live l : List ID) (x : ID) : deadN live (l ++ [x]) = deadN live l + (if x ∈ live then 0 else 1) := by
  rw [deadN, deadN, List.filter_append, List.length_append]
  by_cases h : x ∈ live <;> simp [h]
theorem deadN_le (live l : List ID) : deadN live l ≤ l.length := by rw [deadN]; exact List.length_filter_le _ _
theorem viewObjs_le (v : View) : (viewObjs v).length ≤ v.objects.length := by rw [viewObjs, objsL, List.length_map]; exact List.length_filter_le _ _
theorem garbageOf_le {vs : List View} (s : Small vs) (live : List ID) {v : View} (hv : v ∈ vs) : garbageOf live v ≤ 36 := by
  have h1 := deadN_le live (viewObjs v)
  have h2 := deadN_le live (v.stubs.map (·.id))
  have h3 := deadN_le live (v.scions.map (·.id))
  have h4 := viewObjs_le v
  have h5 := s.objs v hv
  have h6 := s.stubs v hv
  have h7 := s.scions v hv
  rw [List.length_map] at h2 h3
  rw [garbageOf]; omega
theorem sum_le (f : View → Nat) (k : Nat) : ∀ l : List View, (∀ v, v ∈ l → f v ≤ k) → (l.map f).sum ≤ l.length * k
  | [], _ => by simp
  | v :: l, h => by
    have h1 := h v (by simp)
    have h2 := sum_le f k l fun w hw => h w (by simp [hw])
    simp only [List.map_cons, List.sum_cons, List.length_cons, Nat.add_mul, Nat.one_mul]; omega
theorem sum_take (f : View → Nat) {l : List View} {k : Nat} {v : View} (hv : l[k]? = some v) : ((l.take (k + 1)).map f).sum = ((l.take k).map f).sum + f v := by
  rw [List.take_add_one, hv]; simp
theorem objsL_take {l : List Nd} {j : Nat} {n : Nd} (hn : l[j]? = some n) : objsL (l.take (j + 1)) = objsL (l.take j) ++ (if n.kind = 3 then [] else [n.id]) := by
  rw [objsL, objsL, List.take_add_one, hn]
  by_cases h : n.kind = 3 <;> simp [h]
theorem mapid_take {α : Type} (f : α → ID) {l : List α} {j : Nat} {n : α} (hn : l[j]? = some n) : (l.take (j + 1)).map f = (l.take j).map f ++ [f n] := by
  rw [List.take_add_one, hn]; simp
theorem deadN_take_le (live l : List ID) (k : Nat) (h : l.length ≤ k) : deadN live l ≤ k := Nat.le_trans (deadN_le live l) h
theorem objsL_le (l : List Nd) : (objsL l).length ≤ l.length := by rw [objsL, List.length_map]; exact List.length_filter_le _ _
theorem viewObjs_def (v : View) : viewObjs v = objsL v.objects := rfl
theorem garbageOf_def (live : List ID) (v : View) : garbageOf live v = deadN live (viewObjs v) + deadN live (v.stubs.map (·.id)) + deadN live (v.scions.map (·.id)) := rfl
theorem objsL_nil : objsL [] = [] := rfl
attribute [local irreducible] deadN viewObjs garbageOf garbageR objsL
theorem garbage1_s {h : Frag} {a : Value} {live : List ID} {x : ID} {b3 b4 n : Nat} (h3 : At h b3 0 [a]) (hl : SL h 2 IDC a live) (hn : n ≤ 1000000) : FSpec Tryz.prog 70 #[.agg (idc x).toArray, ptr b3 0, ptr b4 0] h [(b4, cells [.int .i64 (n : Int)] 3)]
    (fun h' L' _ => h' = h ∧ L' = [(b4, cells [.int .i64 ((n + (if x ∈ live then 0 else 1) : Nat) : Int)] 3)]) := by
  obtain ⟨x1, x2⟩ := x
  refine spec_of (vs := [.agg (idc (x1, x2)).toArray, ptr b3 0, ptr b4 0]) Tryz.func70 Tryz.ntmps70 rfl rfl rfl ?_
  (focus (refine Wr ?_; refine S_c rfl rfl rfl (C_box rfl rfl ?_); intro b0_1; refine On ?_; refine Wr ?_; refine S_load rfl rfl rfl rfl rfl ?_; refine L_one (Rd.pers ‹_›) (ty rfl) ?_; refine S_load rfl rfl rfl rfl rfl ?_; refine L_agg (Rd.own m0) (ty rfl) (by first | rfl | assumption) ?_; refine S_c rfl rfl rfl (C_callv (has_s (x := (_, _)) ‹_›) rfl rfl ⟨_, _, rfl, ⟨_, _, rfl, rfl, rfl⟩, rfl⟩ (cal rfl) ?_); refine S_q rfl rfl rfl (Q_not rfl rfl) ?_; refine On ?_; refine WP_cond rfl (fun c0_2 => ?_) (fun c0_2 => ?_) <;> (first | (simp [*] at c0_2; done) | (try simp at c0_2)); (focus (refine R_region ?_; refine S_load rfl rfl rfl rfl rfl ?_; refine L_one (Rd.own m1) (ty rfl) ?_; refine S_q rfl rfl rfl (Q_add rfl rfl rfl (by omega)) ?_; refine S_w0 rfl rfl (W_one rfl rfl rfl (ty rfl) u1 rfl rfl rfl ?_); refine OPS_nil ?_)); rotate_left 1; (focus (refine WP_skip ?_)); rotate_left 1))
  · refine ret_q [(b4, cells [.int .i64 ((n : Int) + 1)] 3)] (.inr rfl) rfl rfl (by repeat' first | exact sR _ | exact sA _ _ | exact sN _ | apply s2 | apply s1) ⟨rfl, ?_⟩
    rw [if_neg c0_2]; simp
  · refine ret_q [(b4, cells [.int .i64 (n : Int)] 3)] (.inr rfl) rfl rfl (by repeat' first | exact sR _ | exact sA _ _ | exact sN _ | apply s2 | apply s1) ⟨rfl, ?_⟩
    rw [if_pos c0_2]; simp
theorem garbage_s {h : Frag} {a : Value} {vs : List View} (hs : SL h 13 (ViewC 4398046511104) a vs) (sm : Small vs) : PSpec Tryz.prog 27 #[a] h (fun _ v => v = .int .i64 ((garbageR vs : Nat) : Int)) := by
  have hlen := sm.len
  obtain ⟨pv, cv, rfl⟩ := hs.slice
  refine pspec_of (vs := [.slice pv vs.length cv]) Tryz.func27 Tryz.ntmps27 rfl rfl ?_
  (focus (refine Wr ?_; refine Sm rfl ?_; refine On ?_; refine Wr ?_; refine Sm rfl ?_; refine S_c rfl rfl rfl (C_call (reachable_s ‹_› ‹_›) rfl rfl ⟨_, _, rfl, rfl, rfl⟩ (cal rfl) ?_); rintro h0_1 _ l0_1 ⟨p0_1, q0_1, rfl, f0_1⟩; replace hs := hs.up l0_1; refine S_c rfl rfl rfl (C_alloc rfl (zer rfl) ?_); intro b0_2; refine S_w0 rfl rfl (W_one rfl rfl rfl (ty rfl) u0 rfl rfl rfl ?_); refine On ?_; refine Wr ?_; refine S_c rfl rfl rfl (C_alloc rfl (zer rfl) ?_); intro b0_3; refine S_w0 rfl rfl (W_one rfl rfl rfl (ty rfl) u0 rfl rfl rfl ?_); refine On ?_; refine Wr ?_; refine S_q rfl rfl rfl (Q_makeFunc rfl rfl ⟨_, _, rfl, ⟨_, _, rfl, rfl, rfl⟩, rfl⟩) ?_; refine Sm rfl ?_; refine On ?_; refine WP_seq ?_; refine Wr ?_; refine Sm rfl ?_; refine S_q rfl rfl rfl (Q_len rfl rfl rfl rfl rfl rfl) ?_; refine Sm rfl ?_; refine On ?_; refine WP_block ?_))
  (focus (refine WP_keepM [_] [_] _ rfl ?_; rintro h1_k l1_k k1_k; have a1_k := at_of_keep k1_k; clear k1_k; replace f0_1 := f0_1.up l1_k; replace hs := hs.up l1_k))
  (refine WP_loopF (α := Nat × Nat) [18, 17, 5, 4] (fun (s : Nat × Nat) => vs.length - s.1) (fun (s : Nat × Nat) => [(b0_3, cells [.int .i64 (s.2 : Int)] 3)]) (fun (s : Nat × Nat) => [(19, .int .i64 (s.1 : Int))]) (fun hh (s : Nat × Nat) => hh = h1_k ∧ s.1 ≤ vs.length ∧ s.2 = ((vs.take s.1).map (garbageOf (reachR vs))).sum) (0, 0) ⟨_, _, rfl, ⟨_, _, rfl, ⟨_, _, rfl, ⟨_, _, rfl, rfl, rfl⟩, rfl⟩, rfl⟩, rfl⟩ ?_ (by repeat' first | exact sR _ | exact sA _ _ | exact sN _ | apply s2 | apply s1) (by repeat' first | exact trivial | refine ⟨rfl, ?_⟩) ?_)
  · exact ⟨rfl, Nat.zero_le _, rfl⟩
  rintro h1 ⟨k, n⟩ _ ⟨rfl, hk, hn⟩
  simp only at hk hn
  dsimp only
  have hnl : n ≤ 200 := by
    have := sum_le (garbageOf (reachR vs)) 36 (vs.take k) fun v hv => garbageOf_le sm _ (List.mem_of_mem_take hv)
    rw [List.length_take] at this
    rw [hn]; omega
  by_cases hlt : k < vs.length
  · obtain ⟨v, ev⟩ := get_of hlt
    have hvm : v ∈ vs := List.mem_of_getElem? ev
    have ho := sm.objs v hvm
    have hst := sm.stubs v hvm
    have hsc := sm.scions v hvm
    have hsum := sum_take (garbageOf (reachR vs)) ev
    (focus (refine Wr ?_; refine Sc rfl rfl rfl rfl rfl rfl rfl ?_; refine On ?_; refine WP_seq ?_; refine WP_cond rfl (fun c3_1 => ?_) (fun c3_1 => ?_) <;> (first | (simp [*] at c3_1; done) | (try simp at c3_1)); refine WP_skip ?_; refine then_n ?_; refine WP_seq ?_; refine WP_block ?_; refine Wr ?_; refine S_q rfl rfl rfl (Q_indexS ‹_› ‹_› rfl rfl rfl (elm rfl) rfl) ?_; refine S_load rfl rfl rfl rfl rfl ?_; refine L_elA ‹_› ‹_› (ty rfl) ?_; rintro _ _ _ ⟨xi3_2, xa3_2, po3_2, qo3_2, ps3_2, qs3_2, pc3_2, qc3_2, pn3_2, qn3_2, pm3_2, qm3_2, xw3_2, xv3_2, pf3_2, qf3_2, pr3_2, qr3_2, xe3_2, xf3_2, rfl, vo3_2, vs3_2, vc3_2, vn3_2, vm3_2, vf3_2, vr3_2⟩; refine S_c rfl rfl rfl (C_alloc rfl (zer rfl) ?_); intro b3_3; refine S_w0 rfl rfl (W_all rfl rfl rfl (ty rfl) u0 (by first | rfl | assumption) (by first | rfl | assumption) (by first | rfl | assumption | exact ones_sub ‹_› _ _) ?_); refine On ?_; refine WP_seq ?_; refine Wr ?_; refine Sf rfl rfl rfl rfl rfl (fld rfl rfl) ?_; refine Sf rfl rfl rfl rfl rfl (fld rfl rfl) ?_; refine S_load rfl rfl rfl rfl rfl ?_; refine L_fld2 (Rd.own m0) ?_; refine LV_1 (ty rfl) rfl ?_; refine S_q rfl rfl rfl (Q_len rfl rfl rfl rfl rfl rfl) ?_; refine Sm rfl ?_; refine On ?_; refine WP_block ?_))
    (refine WP_loopM (α := Nat × Nat) [_]  _ [26, 25, 7, 19, 18, 17, 5, 4] (fun (s : Nat × Nat) => v.objects.length - s.1) (fun (s : Nat × Nat) =>  [(b0_3, cells [.int .i64 (s.2 : Int)] 3)]) (fun (s : Nat × Nat) => [(27, .int .i64 (s.1 : Int))]) (fun hh (s : Nat × Nat) => hh = h1 ∧ s.1 ≤ v.objects.length ∧ s.2 = n + deadN (reachR vs) (objsL (v.objects.take s.1))) (0, n) rfl ⟨_, _, rfl, ⟨_, _, rfl, ⟨_, _, rfl, ⟨_, _, rfl, ⟨_, _, rfl, ⟨_, _, rfl, ⟨_, _, rfl, ⟨_, _, rfl, rfl, rfl⟩, rfl⟩, rfl⟩, rfl⟩, rfl⟩, rfl⟩, rfl⟩, rfl⟩ (by repeat' first | exact trivial | refine ⟨rfl, ?_⟩) ?_ ?_)
    · exact ⟨rfl, Nat.zero_le _, by simp [objsL_nil, deadN_nil]⟩
    rintro h2 ⟨j, n2⟩ _ ⟨rfl, hj, hn2⟩
    simp only at hj hn2
    dsimp only
    have hb2 := deadN_take_le (reachR vs) (objsL (v.objects.take j)) 12 (Nat.le_trans (objsL_le _) (by rw [List.length_take]; omega))
    by_cases hlt2 : j < v.objects.length
    · obtain ⟨x, ex⟩ := get_of hlt2
      have htk := objsL_take ex
      (focus (refine Wr ?_; refine Sc rfl rfl rfl rfl rfl rfl rfl ?_; refine On ?_; refine WP_seq ?_; refine WP_cond rfl (fun c5_1 => ?_) (fun c5_1 => ?_) <;> (first | (simp [*] at c5_1; done) | (try simp at c5_1)); refine WP_skip ?_; refine then_n ?_; refine WP_seq ?_; refine WP_block ?_; refine Wr ?_; refine S_q rfl rfl rfl (Q_indexS ‹_› ‹_› rfl rfl rfl (elm rfl) rfl) ?_; refine S_load rfl rfl rfl rfl rfl ?_; refine L_elA ‹_› ‹_› (ty rfl) ?_; rintro _ _ _ ⟨pn5_2, qn5_2, rfl, fn5_2⟩; refine S_c rfl rfl rfl (C_alloc rfl (zer rfl) ?_); intro b5_3; refine S_w0 rfl rfl (W_all rfl rfl rfl (ty rfl) u0 (by first | rfl | assumption) (by first | rfl | assumption) (by first | rfl | assumption | exact ones_sub ‹_› _ _) ?_); refine On ?_; refine Wr ?_; refine Sf rfl rfl rfl rfl rfl (fld rfl rfl) ?_; refine S_load rfl rfl rfl rfl rfl ?_; refine L_fld (Rd.own m0) (ty rfl) rfl ?_; refine Sc rfl rfl rfl rfl rfl rfl rfl ?_; refine On ?_; refine WP_cond rfl (fun c5_4 => ?_) (fun c5_4 => ?_) <;> (first | (simp [*] at c5_4; done) | (try simp at c5_4)); (focus (refine R_region ?_; refine Sm rfl ?_; refine Sf rfl rfl rfl rfl rfl (fld rfl rfl) ?_; refine S_load rfl rfl rfl rfl rfl ?_; refine L_sub (Rd.own m0) (ty rfl) rfl ?_)); rotate_left 1; (focus (refine WP_skip ?_; refine block_n ?_; refine then_n ?_; refine R_region ?_; refine S_q rfl rfl rfl (Q_add rfl rfl rfl (by omega)) ?_; refine Sm rfl ?_; refine OPS_nil ?_)); rotate_left 1))
      · refine S_w rfl rfl rfl (W_callC (vs := [.agg (idc x.id).toArray]) (cap := [ptr b0_2 0, ptr b0_3 0]) [_, _] _ (garbage1_s a1_k f0_1 (by omega)) rfl rfl rfl ⟨_, _, rfl, rfl, rfl⟩ (cal rfl) rfl ?_)
        rintro hq Lq _ hlq ⟨rfl, rfl⟩
        (focus (refine OPS_nil ?_; refine block_n ?_; refine then_n ?_; refine R_region ?_; refine S_q rfl rfl rfl (Q_add rfl rfl rfl (by omega)) ?_; refine Sm rfl ?_; refine OPS_nil ?_))
        refine roundF_n (j + 1, _) (by simp only; omega) ⟨rfl, by simp only; omega, ?_⟩ (by repeat' first | exact sR _ | exact sA _ _ | exact sN _ | apply s2 | apply s1) (by repeat' first | exact trivial | refine ⟨rfl, ?_⟩)
        simp only; rw [htk, if_neg c5_4, deadN_snoc, hn2]; omega
      · refine roundF_n (j + 1, n2) (by simp only; omega) ⟨rfl, by simp only; omega, ?_⟩ (by repeat' first | exact sR _ | exact sA _ _ | exact sN _ | apply s2 | apply s1) (by repeat' first | exact trivial | refine ⟨rfl, ?_⟩)
        simp only; rw [htk, if_pos c5_4, List.append_nil, hn2]
    have hge : j = v.objects.length := by omega
    subst hge
    rw [List.take_length, ← viewObjs_def] at hn2
    rw [List.take_length, ← viewObjs_def] at hb2
    (focus (refine Wr ?_; refine Sc rfl rfl rfl rfl rfl rfl rfl ?_; refine On ?_; refine WP_seq ?_; refine WP_cond rfl (fun c7_1 => ?_) (fun c7_1 => ?_) <;> (first | (simp [*] at c7_1; done) | (try simp at c7_1)); refine WP_exit ?_; refine then_e ?_; refine roundF_e ?_; refine block_e ?_; refine then_n ?_; refine WP_seq ?_; refine Wr ?_; refine Sf rfl rfl rfl rfl rfl (fld rfl rfl) ?_; refine S_load rfl rfl rfl rfl rfl ?_; refine L_fld (Rd.own m0) (ty rfl) rfl ?_; refine S_q rfl rfl rfl (Q_len rfl rfl rfl rfl rfl rfl) ?_; refine Sm rfl ?_; refine On ?_; refine WP_block ?_))
    (refine WP_loopM (α := Nat × Nat) [_]  _ [41, 40, 7, 19, 18, 17, 5, 4] (fun (s : Nat × Nat) => v.stubs.length - s.1) (fun (s : Nat × Nat) =>  [(b0_3, cells [.int .i64 (s.2 : Int)] 3)]) (fun (s : Nat × Nat) => [(42, .int .i64 (s.1 : Int))]) (fun hh (s : Nat × Nat) => hh = h2 ∧ s.1 ≤ v.stubs.length ∧ s.2 = n2 + deadN (reachR vs) ((v.stubs.take s.1).map (·.id))) (0, n2) rfl ⟨_, _, rfl, ⟨_, _, rfl, ⟨_, _, rfl, ⟨_, _, rfl, ⟨_, _, rfl, ⟨_, _, rfl, ⟨_, _, rfl, ⟨_, _, rfl, rfl, rfl⟩, rfl⟩, rfl⟩, rfl⟩, rfl⟩, rfl⟩, rfl⟩, rfl⟩ (by repeat' first | exact trivial | refine ⟨rfl, ?_⟩) ?_ ?_)
    · exact ⟨rfl, Nat.zero_le _, by simp [deadN_nil]⟩
    rintro h3 ⟨j, n3⟩ _ ⟨rfl, hj, hn3⟩
    simp only at hj hn3
    dsimp only
    have hb3 := deadN_take_le (reachR vs) ((v.stubs.take j).map (·.id)) 12 (by rw [List.length_map, List.length_take]; omega)
    by_cases hlt3 : j < v.stubs.length
    · obtain ⟨x, ex⟩ := get_of hlt3
      have htk := mapid_take (·.id) ex
      (focus (refine Wr ?_; refine Sc rfl rfl rfl rfl rfl rfl rfl ?_; refine On ?_; refine WP_seq ?_; refine WP_cond rfl (fun c9_1 => ?_) (fun c9_1 => ?_) <;> (first | (simp [*] at c9_1; done) | (try simp at c9_1)); refine WP_skip ?_; refine then_n ?_; refine WP_seq ?_; refine WP_block ?_; refine Wr ?_; refine S_q rfl rfl rfl (Q_indexS ‹_› ‹_› rfl rfl rfl (elm rfl) rfl) ?_; refine S_load rfl rfl rfl rfl rfl ?_; refine L_elA ‹_› ‹_› (ty rfl) ?_; rintro _ _ _ ⟨xa9_2, xb9_2, xc9_2, xd9_2, xe9_2, xf9_2, rfl⟩; refine S_c rfl rfl rfl (C_alloc rfl (zer rfl) ?_); intro b9_3; refine S_w0 rfl rfl (W_all rfl rfl rfl (ty rfl) u0 (by first | rfl | assumption) (by first | rfl | assumption) (by first | rfl | assumption | exact ones_sub ‹_› _ _) ?_); refine On ?_; refine R_region ?_; refine Sm rfl ?_; refine Sf rfl rfl rfl rfl rfl (fld rfl rfl) ?_; refine S_load rfl rfl rfl rfl rfl ?_; refine L_sub (Rd.own m0) (ty rfl) rfl ?_))
      refine S_w rfl rfl rfl (W_callC (vs := [.agg (idc x.id).toArray]) (cap := [ptr b0_2 0, ptr b0_3 0]) [_, _] _ (garbage1_s a1_k f0_1 (by omega)) rfl rfl rfl ⟨_, _, rfl, rfl, rfl⟩ (cal rfl) rfl ?_)
      rintro hq Lq _ hlq ⟨rfl, rfl⟩
      (focus (refine OPS_nil ?_; refine block_n ?_; refine then_n ?_; refine R_region ?_; refine S_q rfl rfl rfl (Q_add rfl rfl rfl (by omega)) ?_; refine Sm rfl ?_; refine OPS_nil ?_))
      refine roundF_n (j + 1, _) (by simp only; omega) ⟨rfl, by simp only; omega, ?_⟩ (by repeat' first | exact sR _ | exact sA _ _ | exact sN _ | apply s2 | apply s1) (by repeat' first | exact trivial | refine ⟨rfl, ?_⟩)
      simp only; rw [htk, deadN_snoc, hn3]; omega
    have hge : j = v.stubs.length := by omega
    subst hge
    rw [List.take_length] at hn3 hb3
    (focus (refine Wr ?_; refine Sc rfl rfl rfl rfl rfl rfl rfl ?_; refine On ?_; refine WP_seq ?_; refine WP_cond rfl (fun c11_1 => ?_) (fun c11_1 => ?_) <;> (first | (simp [*] at c11_1; done) | (try simp at c11_1)); refine WP_exit ?_; refine then_e ?_; refine roundF_e ?_; refine block_e ?_; refine then_n ?_; refine Wr ?_; refine Sf rfl rfl rfl rfl rfl (fld rfl rfl) ?_; refine S_load rfl rfl rfl rfl rfl ?_; refine L_fld (Rd.own m0) (ty rfl) rfl ?_; refine S_q rfl rfl rfl (Q_len rfl rfl rfl rfl rfl rfl) ?_; refine Sm rfl ?_; refine On ?_; refine WP_block ?_))
    (refine WP_loopM (α := Nat × Nat) [_]  _ [53, 52, 19, 18, 17, 5, 4] (fun (s : Nat × Nat) => v.scions.length - s.1) (fun (s : Nat × Nat) =>  [(b0_3, cells [.int .i64 (s.2 : Int)] 3)]) (fun (s : Nat × Nat) => [(54, .int .i64 (s.1 : Int))]) (fun hh (s : Nat × Nat) => hh = h3 ∧ s.1 ≤ v.scions.length ∧ s.2 = n3 + deadN (reachR vs) ((v.scions.take s.1).map (·.id))) (0, n3) rfl ⟨_, _, rfl, ⟨_, _, rfl, ⟨_, _, rfl, ⟨_, _, rfl, ⟨_, _, rfl, ⟨_, _, rfl, ⟨_, _, rfl, rfl, rfl⟩, rfl⟩, rfl⟩, rfl⟩, rfl⟩, rfl⟩, rfl⟩ (by repeat' first | exact trivial | refine ⟨rfl, ?_⟩) ?_ ?_)
    · exact ⟨rfl, Nat.zero_le _, by simp [deadN_nil]⟩
    rintro h4 ⟨j, n4⟩ _ ⟨rfl, hj, hn4⟩
    simp only at hj hn4
    dsimp only
    have hb4 := deadN_take_le (reachR vs) ((v.scions.take j).map (·.id)) 12 (by rw [List.length_map, List.length_take]; omega)
    by_cases hlt4 : j < v.scions.length
    · obtain ⟨x, ex⟩ := get_of hlt4
      have htk := mapid_take (·.id) ex
      (focus (refine Wr ?_; refine Sc rfl rfl rfl rfl rfl rfl rfl ?_; refine On ?_; refine WP_seq ?_; refine WP_cond rfl (fun c13_1 => ?_) (fun c13_1 => ?_) <;> (first | (simp [*] at c13_1; done) | (try simp at c13_1)); refine WP_skip ?_; refine then_n ?_; refine WP_seq ?_; refine WP_block ?_; refine Wr ?_; refine S_q rfl rfl rfl (Q_indexS ‹_› ‹_› rfl rfl rfl (elm rfl) rfl) ?_; refine S_load rfl rfl rfl rfl rfl ?_; refine L_elA ‹_› ‹_› (ty rfl) ?_; rintro _ _ _ ⟨xa13_2, xb13_2, xc13_2, xd13_2, xe13_2, xf13_2, xg13_2, xh13_2, rfl⟩; refine S_c rfl rfl rfl (C_alloc rfl (zer rfl) ?_); intro b13_3; refine S_w0 rfl rfl (W_all rfl rfl rfl (ty rfl) u0 (by first | rfl | assumption) (by first | rfl | assumption) (by first | rfl | assumption | exact ones_sub ‹_› _ _) ?_); refine On ?_; refine R_region ?_; refine Sm rfl ?_; refine Sf rfl rfl rfl rfl rfl (fld rfl rfl) ?_; refine S_load rfl rfl rfl rfl rfl ?_; refine L_sub (Rd.own m0) (ty rfl) rfl ?_))
      refine S_w rfl rfl rfl (W_callC (vs := [.agg (idc x.id).toArray]) (cap := [ptr b0_2 0, ptr b0_3 0]) [_, _] _ (garbage1_s a1_k f0_1 (by omega)) rfl rfl rfl ⟨_, _, rfl, rfl, rfl⟩ (cal rfl) rfl ?_)
      rintro hq Lq _ hlq ⟨rfl, rfl⟩
      (focus (refine OPS_nil ?_; refine block_n ?_; refine then_n ?_; refine R_region ?_; refine S_q rfl rfl rfl (Q_add rfl rfl rfl (by omega)) ?_; refine Sm rfl ?_; refine OPS_nil ?_))
      refine roundF_n (j + 1, _) (by simp only; omega) ⟨rfl, by simp only; omega, ?_⟩ (by repeat' first | exact sR _ | exact sA _ _ | exact sN _ | apply s2 | apply s1) (by repeat' first | exact trivial | refine ⟨rfl, ?_⟩)
      simp only; rw [htk, deadN_snoc, hn4]; omega
    have hge : j = v.scions.length := by omega
    subst hge
    rw [List.take_length] at hn4 hb4
    (focus (refine Wr ?_; refine Sc rfl rfl rfl rfl rfl rfl rfl ?_; refine On ?_; refine WP_seq ?_; refine WP_cond rfl (fun c15_1 => ?_) (fun c15_1 => ?_) <;> (first | (simp [*] at c15_1; done) | (try simp at c15_1)); refine WP_exit ?_; refine then_e ?_; refine roundF_e ?_; refine block_e ?_; refine block_n ?_; refine then_n ?_; refine R_region ?_; refine S_q rfl rfl rfl (Q_add rfl rfl rfl (by omega)) ?_; refine Sm rfl ?_; refine OPS_nil ?_))
    refine roundF_n (k + 1, n4) (by simp only; omega) ⟨rfl, by simp only; omega, ?_⟩ (by repeat' first | exact sR _ | exact sA _ _ | exact sN _ | apply s2 | apply s1) (by repeat' first | exact trivial | refine ⟨rfl, ?_⟩)
    simp only; rw [hsum, ← hn, hn4, hn3, hn2, garbageOf_def]; omega
  · have hge : k = vs.length := by omega
    subst hge
    rw [List.take_length] at hn
    (focus (refine Wr ?_; refine Sc rfl rfl rfl rfl rfl rfl rfl ?_; refine On ?_; refine WP_seq ?_; refine WP_cond rfl (fun c16_1 => ?_) (fun c16_1 => ?_) <;> (first | (simp [*] at c16_1; done) | (try simp at c16_1)); refine WP_exit ?_; refine then_e ?_; refine roundF_e ?_; refine block_e ?_; refine then_n ?_; refine Wr ?_; refine S_load rfl rfl rfl rfl rfl ?_; refine L_one (Rd.own m0) (ty rfl) ?_; refine Sm rfl ?_; refine On ?_; refine WP_ret ?_))
    refine pret (.inl rfl) rfl ⟨_, _, rfl, rfl, rfl⟩ ?_
    simp only [resOf]; rw [hn, garbageR]
end Go.Proofs.YtfhoecgiahpddaaGreat
/-
  CONTRACTS: the reference's roots and what it reaches (refmeshref55.Roots, Reachable).
-/
set_option linter.all false
namespace Go.Proofs.YtfhoecgiahpddaaGreat
open Go.Mesh Go.RowKit
set_option maxRecDepth 100000
set_option linter.unusedVariables false
set_option maxHeartbeats 4000000
attribute [local irreducible] WP OPS ANY ANYo LG LV FSpec PSpec QOP OPc OPw thenQ blockQ roundQ roundF retQ retM Rd At SLB OS cmpI orI cmpID namedB valB nodeB kindB validG valAux idxI findG zeroV viewOf vwAt idxOf recv flyB scionOf moveOf numberedOf idOf valueOf mget mput localB carriedB msgB sizesB smallV fewB stubOf followF followOf flOf flightsOf flPre setL minusL compactL putI mergeN insN insAll unionR NMap Coll retN bodyS GMap Dfs refsV refsOf reachL movedOf movedG graphParts graphR isMove flightIDs mailIDs viewIDs rawRoots rootsR refFl refMoved refPut keepL Bfs reachR deadN viewObjs garbageOf garbageR objsL
/-- the reference's roots, as it lists them -/
def refView1 (vs : List View) (v : View) : List ID := v.names ++ v.mail.flatMap mailIDs ++ (v.flights.filter (flyB vs v)).flatMap (refFl vs v.machine)
def refRaw (vs : List View) : List ID := vs.flatMap (refView1 vs)
theorem refFl_mem (vs : List View) (v : View) (x : Flight) (z : ID) : z ∈ refFl vs v.machine x ↔ z ∈ flightIDs vs (v, x) := by
  unfold refFl flightIDs
  simp only
  split
  · simp only [List.mem_append, List.mem_cons, List.not_mem_nil, or_false]; exact Or.comm
  · rfl
theorem refRaw_mem (vs : List View) (z : ID) : z ∈ refRaw vs ↔ z ∈ rawRoots vs := by
  simp only [refRaw, rawRoots, refView1, viewIDs, flightsOf, flOf, List.mem_flatMap, List.mem_append, List.mem_map, refFl_mem]
  constructor
  · rintro ⟨v, hv, (h | h) | ⟨x, hx, h⟩⟩
    · exact .inl ⟨v, hv, .inl h⟩
    · exact .inl ⟨v, hv, .inr h⟩
    · exact .inr ⟨(v, x), ⟨v, hv, x, hx, rfl⟩, h⟩
  · rintro (⟨v, hv, h | h⟩ | ⟨_, ⟨v, hv, x, hx, rfl⟩, h⟩)
    · exact ⟨v, hv, .inl (.inl h)⟩
    · exact ⟨v, hv, .inl (.inr h)⟩
    · exact ⟨v, hv, .inr ⟨x, hx, h⟩⟩
theorem refRaw_roots (vs : List View) : minusL (setL (refRaw vs)) [(0, 0)] = rootsR vs := by
  have : setL (refRaw vs) = setL (rawRoots vs) := SI_unique (SI_setL _) (SI_setL _) fun z => by rw [mem_setL, mem_setL, refRaw_mem]
  rw [rootsR, this]
theorem refFl_len {vs : List View} (s : Small vs) {v : View} (hv : v ∈ vs) {x : Flight} (hx : x ∈ v.flights) : (refFl vs v.machine x).length ≤ 28 := by
  have h1 := s.letter _ hv _ hx
  have h2 := s.pmail _ hv _ hx
  have h3 := flatMap_le (fun l : List Ref => x.msg.parcel.id :: l.map (idOf vs v.machine x.to)) 7 x.msg.parcel.mail (fun m hm => by
    have := s.pargs _ hv _ hx m hm
    simp; omega)
  unfold refFl
  split
  · simp; omega
  split
  · simp
  split
  · omega
  · simp
theorem refView1_len {vs : List View} (s : Small vs) {v : View} (hv : v ∈ vs) : (refView1 vs v).length ≤ 216 := by
  have h1 := viewIDs_len s hv
  have h2 := flatMap_le (refFl vs v.machine) 28 (v.flights.filter (flyB vs v)) fun x hx => refFl_len s hv (List.mem_filter.1 hx).1
  have h3 := List.length_filter_le (flyB vs v) v.flights
  have h4 := s.flights v hv
  rw [viewIDs, List.length_append] at h1
  rw [refView1, List.length_append, List.length_append]; omega
theorem refRaw_take_len {vs : List View} (s : Small vs) (k : Nat) : ((vs.take k).flatMap (refView1 vs)).length ≤ 1080 := by
  have h1 := flatMap_le (refView1 vs) 216 (vs.take k) fun v hv => refView1_len s (List.mem_of_mem_take hv)
  have h2 : (vs.take k).length ≤ 5 := by rw [List.length_take]; have := s.len; omega
  omega
theorem mailIDs_len {vs : List View} (s : Small vs) {v : View} (hv : v ∈ vs) (i : Nat) : ((v.mail.take i).flatMap mailIDs).length ≤ 42 := by
  have ha6 := s.args v hv
  have hm6 := s.mail v hv
  have := flatMap_le mailIDs 7 (v.mail.take i) (fun m hm => by
    have h1 := ha6 m (List.mem_of_mem_take hm)
    have h2 := refsV_length m.args
    simp [mailIDs]; omega)
  rw [List.length_take] at this
  omega
theorem refFls_len {vs : List View} (s : Small vs) {v : View} (hv : v ∈ vs) (i : Nat) : (((v.flights.take i).filter (flyB vs v)).flatMap (refFl vs v.machine)).length ≤ 168 := by
  have h2 := flatMap_le (refFl vs v.machine) 28 ((v.flights.take i).filter (flyB vs v)) fun x hx => refFl_len s hv (List.mem_of_mem_take (List.mem_filter.1 hx).1)
  have h3 := List.length_filter_le (flyB vs v) (v.flights.take i)
  have h4 := s.flights v hv
  rw [List.length_take] at h3
  omega
theorem refFls_yes {vs : List View} {v : View} {j : Nat} {x : Flight} (hx : v.flights[j]? = some x) (hf : flyB vs v x = true) : ((v.flights.take (j + 1)).filter (flyB vs v)).flatMap (refFl vs v.machine) = ((v.flights.take j).filter (flyB vs v)).flatMap (refFl vs v.machine) ++ refFl vs v.machine x := by
  rw [List.take_add_one, hx]; simp [hf]
theorem refFls_no {vs : List View} {v : View} {j : Nat} {x : Flight} (hx : v.flights[j]? = some x) (hf : flyB vs v x = false) : ((v.flights.take (j + 1)).filter (flyB vs v)).flatMap (refFl vs v.machine) = ((v.flights.take j).filter (flyB vs v)).flatMap (refFl vs v.machine) := by
  rw [List.take_add_one, hx]; simp [hf]
theorem mailIDs_def (m : MailE) : mailIDs m = m.to :: refsV m.args := by rw [mailIDs]
theorem refView1_def (vs : List View) (v : View) : refView1 vs v = v.names ++ v.mail.flatMap mailIDs ++ (v.flights.filter (flyB vs v)).flatMap (refFl vs v.machine) := by rw [refView1]
attribute [local irreducible] refView1 refRaw
theorem refRoots_s {h : Frag} {a : Value} {vs : List View} (hs : SL h 13 (ViewC 4398046511104) a vs) (sm : Small vs) : PSpec Tryz.prog 19 #[a] h (fun h' v => ∃ p c, v = .slice p (rootsR vs).length c ∧ SL h' 2 IDC (.slice p (rootsR vs).length c) (rootsR vs) ∧ (rootsR vs).length ≤ c) := by
  have hlen := sm.len
  obtain ⟨pv, cv, rfl⟩ := hs.slice
  refine pspec_of (vs := [.slice pv vs.length cv]) Tryz.func19 Tryz.ntmps19 rfl rfl ?_
  (focus (refine Wr ?_; refine Sm rfl ?_; refine On ?_; refine Wr ?_; refine S_c rfl rfl rfl (C_buildSlice rfl (elm rfl) (zer rfl) rfl rfl rfl rfl ?_); intro b0_1; refine Sm rfl ?_; refine On ?_; refine WP_seq ?_; refine Wr ?_; refine Sm rfl ?_; refine On ?_; refine WP_block ?_))
  (refine WP_loopF (α := Nat × List ID × Option Addr × Nat × Hp) [0] (fun (s : Nat × List ID × Option Addr × Nat × Hp) => vs.length - s.1) (fun (s : Nat × List ID × Option Addr × Nat × Hp) => s.2.2.2.2 ++ []) (fun (s : Nat × List ID × Option Addr × Nat × Hp) => [(4, .int .i64 (s.1 : Int)), (3, .slice s.2.2.1 s.2.1.length s.2.2.2.1)]) (fun hh (s : Nat × List ID × Option Addr × Nat × Hp) => le h hh ∧ s.1 ≤ vs.length ∧ s.2.1 = (vs.take s.1).flatMap (refView1 vs) ∧ OS hh 35 2 IDC (.slice s.2.2.1 s.2.1.length s.2.2.2.1) s.2.1 s.2.2.2.2) (0, [], some ⟨b0_1, 0, none⟩, 0, [(b0_1, cells [] 35)]) ⟨_, _, rfl, rfl, rfl⟩ ?_ (by repeat' first | exact sR _ | exact sA _ _ | exact sN _ | apply s2 | apply s1) (by repeat' first | exact trivial | refine ⟨rfl, ?_⟩) ?_)
  · exact ⟨le_refl _, Nat.zero_le _, rfl, OS.lit0 _ _ _ _ _⟩
  rintro h1 ⟨k, out, p, c, M⟩ _ ⟨hl1, hk, hoe, hO⟩
  simp only at hk hoe hO
  dsimp only
  (replace hs := hs.up hl1)
  have hol : out.length ≤ 1080 := by rw [hoe]; exact refRaw_take_len sm k
  by_cases hlt : k < vs.length
  · obtain ⟨v, ev⟩ := get_of hlt
    have hvm : v ∈ vs := List.mem_of_getElem? ev
    have hn6 := sm.names v hvm
    have hm6 := sm.mail v hvm
    have ha6 := sm.args v hvm
    have hf6 := sm.flights v hvm
    have hvt := flatMap_take (refView1 vs) ev
    (focus (refine WP_seq ?_; refine Wr ?_; refine Sm rfl ?_; refine Sm rfl ?_; refine S_q rfl rfl rfl (Q_len rfl rfl rfl rfl rfl rfl) ?_; refine Sc rfl rfl rfl rfl rfl rfl rfl ?_; refine On ?_; refine WP_cond rfl (fun c3_1 => ?_) (fun c3_1 => ?_) <;> (first | (simp [*] at c3_1; done) | (try simp at c3_1)); refine WP_skip ?_; refine then_n ?_; refine WP_seq ?_; refine WP_block ?_; refine Wr ?_; refine Sm rfl ?_; refine Sm rfl ?_; refine S_q rfl rfl rfl (Q_indexS ‹_› ‹_› rfl rfl rfl (elm rfl) rfl) ?_; refine S_load rfl rfl rfl rfl rfl ?_; refine L_elA ‹_› ‹_› (ty rfl) ?_; rintro _ _ _ ⟨xi3_2, xa3_2, po3_2, qo3_2, ps3_2, qs3_2, pc3_2, qc3_2, pn3_2, qn3_2, pm3_2, qm3_2, xw3_2, xv3_2, pf3_2, qf3_2, pr3_2, qr3_2, xe3_2, xf3_2, rfl, vo3_2, vs3_2, vc3_2, vn3_2, vm3_2, vf3_2, vr3_2⟩; refine S_c rfl rfl rfl (C_alloc rfl (zer rfl) ?_); intro b3_3; refine S_w0 rfl rfl (W_all rfl rfl rfl (ty rfl) u0 (by first | rfl | assumption) (by first | rfl | assumption) (by first | rfl | assumption | exact ones_sub ‹_› _ _) ?_); refine On ?_; refine WP_seq ?_; refine Wr ?_; refine Sm rfl ?_; refine On ?_; refine WP_block ?_))
    (focus (refine WP_keepM [] [_] _ rfl ?_; rintro h4_k l4_k k4_k; have a4_k := at_of_keep k4_k; clear k4_k; replace hO := hO.up l4_k; replace hs := hs.up l4_k; replace vo3_2 := vo3_2.up l4_k; replace vs3_2 := vs3_2.up l4_k; replace vc3_2 := vc3_2.up l4_k; replace vn3_2 := vn3_2.up l4_k; replace vm3_2 := vm3_2.up l4_k; replace vf3_2 := vf3_2.up l4_k; replace vr3_2 := vr3_2.up l4_k))
    (refine WP_loopF (α := Nat × List ID × Option Addr × Nat × Hp) [5, 4, 0] (fun (s : Nat × List ID × Option Addr × Nat × Hp) => v.names.length - s.1) (fun (s : Nat × List ID × Option Addr × Nat × Hp) => s.2.2.2.2 ++ []) (fun (s : Nat × List ID × Option Addr × Nat × Hp) => [(6, .int .i64 (s.1 : Int)), (3, .slice s.2.2.1 s.2.1.length s.2.2.2.1)]) (fun hh (s : Nat × List ID × Option Addr × Nat × Hp) => hh = h4_k ∧ s.1 ≤ v.names.length ∧ s.2.1 = out ++ v.names.take s.1 ∧ OS h4_k 35 2 IDC (.slice s.2.2.1 s.2.1.length s.2.2.2.1) s.2.1 s.2.2.2.2) (0, out, p, c, M) ⟨_, _, rfl, ⟨_, _, rfl, ⟨_, _, rfl, rfl, rfl⟩, rfl⟩, rfl⟩ ?_ (by repeat' first | exact sR _ | exact sA _ _ | exact sN _ | apply s2 | apply s1) (by repeat' first | exact trivial | refine ⟨rfl, ?_⟩) ?_)
    · exact ⟨rfl, Nat.zero_le _, by simp, hO⟩
    clear hO M p c
    rintro h2 ⟨j, oo, p, c, M⟩ _ ⟨rfl, hj, hoo, hO⟩
    simp only at hj hoo hO
    dsimp only
    have hool : oo.length ≤ out.length + 6 := by rw [hoo, List.length_append, List.length_take]; omega
    by_cases hlt2 : j < v.names.length
    · obtain ⟨⟨n1, n2⟩, en⟩ := get_of hlt2
      (focus (refine WP_seq ?_; refine Wr ?_; refine Sm rfl ?_; refine Sf rfl rfl rfl rfl rfl (fld rfl rfl) ?_; refine S_load rfl rfl rfl rfl rfl ?_; refine L_fld (Rd.pers ‹_›) (ty rfl) rfl ?_; refine S_q rfl rfl rfl (Q_len rfl rfl rfl rfl rfl rfl) ?_; refine Sc rfl rfl rfl rfl rfl rfl rfl ?_; refine On ?_; refine WP_cond rfl (fun c6_1 => ?_) (fun c6_1 => ?_) <;> (first | (simp [*] at c6_1; done) | (try simp at c6_1)); refine WP_skip ?_; refine then_n ?_; refine WP_seq ?_; refine WP_block ?_; refine R_region ?_; refine Sm rfl ?_; refine Sf rfl rfl rfl rfl rfl (fld rfl rfl) ?_; refine S_load rfl rfl rfl rfl rfl ?_; refine L_fld (Rd.pers ‹_›) (ty rfl) rfl ?_; refine Sm rfl ?_; refine S_q rfl rfl rfl (Q_indexS ‹_› ‹_› rfl rfl rfl (elm rfl) rfl) ?_; refine Sf rfl rfl rfl rfl rfl (fld rfl rfl) ?_; refine S_load rfl rfl rfl rfl rfl ?_; refine L_elF ‹_› ‹_› ?_; rintro _ _ _ ⟨xa6_2, rfl⟩; refine LV_a (ty rfl) rfl ?_; refine S_c rfl rfl rfl (C_buildSlice rfl (elm rfl) (zer rfl) rfl ⟨_, _, _, rfl, rfl, rfl, rfl, rfl, rfl⟩ rfl rfl ?_); intro b6_3; refine S_w rfl rfl rfl (W_app1 [] _ hO rfl rfl rfl rfl rfl rfl (elm rfl) (zer rfl) rfl rfl rfl rfl rfl (by (try simp only [lA]); omega) (by (try simp only [lA]); omega) ?_); rintro p6_4 q6_4 m6_4 o6_4; refine Sm rfl ?_; refine OPS_nil ?_; refine block_n ?_; refine then_n ?_; refine R_region ?_; refine Sm rfl ?_; refine S_q rfl rfl rfl (Q_add rfl rfl rfl (by omega)) ?_; refine Sm rfl ?_; refine OPS_nil ?_))
      refine roundF_n (j + 1, oo ++ [(n1, n2)], p6_4, q6_4, m6_4) (by simp only; omega) ⟨rfl, by simp only; omega, ?_, o6_4⟩ (by repeat' first | exact sR _ | exact sA _ _ | exact sN _ | apply s2 | apply s1) (by repeat' first | exact trivial | refine ⟨rfl, ?_⟩)
      simp only; rw [hoo, List.take_add_one, en]; simp
    have hge2 : j = v.names.length := by omega
    subst hge2
    rw [List.take_length] at hoo
    (focus (refine WP_seq ?_; refine Wr ?_; refine Sm rfl ?_; refine Sf rfl rfl rfl rfl rfl (fld rfl rfl) ?_; refine S_load rfl rfl rfl rfl rfl ?_; refine L_fld (Rd.pers ‹_›) (ty rfl) rfl ?_; refine S_q rfl rfl rfl (Q_len rfl rfl rfl rfl rfl rfl) ?_; refine Sc rfl rfl rfl rfl rfl rfl rfl ?_; refine On ?_; refine WP_cond rfl (fun c7_1 => ?_) (fun c7_1 => ?_) <;> (first | (simp [*] at c7_1; done) | (try simp at c7_1)); refine WP_exit ?_; refine then_e ?_; refine roundF_e ?_; refine block_e ?_; refine then_n ?_; refine WP_seq ?_; refine Wr ?_; refine Sm rfl ?_; refine On ?_; refine WP_block ?_))
    (refine WP_loopF (α := Nat × List ID × Option Addr × Nat × Hp) [5, 4, 0] (fun (s : Nat × List ID × Option Addr × Nat × Hp) => v.mail.length - s.1) (fun (s : Nat × List ID × Option Addr × Nat × Hp) => s.2.2.2.2 ++ []) (fun (s : Nat × List ID × Option Addr × Nat × Hp) => [(7, .int .i64 (s.1 : Int)), (3, .slice s.2.2.1 s.2.1.length s.2.2.2.1)]) (fun hh (s : Nat × List ID × Option Addr × Nat × Hp) => hh = h2 ∧ s.1 ≤ v.mail.length ∧ s.2.1 = oo ++ (v.mail.take s.1).flatMap mailIDs ∧ OS h2 35 2 IDC (.slice s.2.2.1 s.2.1.length s.2.2.2.1) s.2.1 s.2.2.2.2) (0, oo, p, c, M) ⟨_, _, rfl, ⟨_, _, rfl, ⟨_, _, rfl, rfl, rfl⟩, rfl⟩, rfl⟩ ?_ (by repeat' first | exact sR _ | exact sA _ _ | exact sN _ | apply s2 | apply s1) (by repeat' first | exact trivial | refine ⟨rfl, ?_⟩) ?_)
    · exact ⟨rfl, Nat.zero_le _, by simp, hO⟩
    clear hO M p c
    rintro h3 ⟨i, o3, p, c, M⟩ _ ⟨rfl, hi, ho3, hO⟩
    simp only at hi ho3 hO
    dsimp only
    have ho3l : o3.length ≤ oo.length + 42 := by
      have := mailIDs_len sm hvm i
      rw [ho3, List.length_append]; omega
    by_cases hlt3 : i < v.mail.length
    · obtain ⟨⟨⟨t1, t2⟩, ag⟩, em⟩ := get_of hlt3
      have hmt := flatMap_take mailIDs em
      have hag : ag.length ≤ 6 := ha6 _ (List.mem_of_getElem? em)
      (focus (refine WP_seq ?_; refine Wr ?_; refine Sm rfl ?_; refine Sf rfl rfl rfl rfl rfl (fld rfl rfl) ?_; refine S_load rfl rfl rfl rfl rfl ?_; refine L_fld (Rd.pers ‹_›) (ty rfl) rfl ?_; refine S_q rfl rfl rfl (Q_len rfl rfl rfl rfl rfl rfl) ?_; refine Sc rfl rfl rfl rfl rfl rfl rfl ?_; refine On ?_; refine WP_cond rfl (fun c9_1 => ?_) (fun c9_1 => ?_) <;> (first | (simp [*] at c9_1; done) | (try simp at c9_1)); refine WP_skip ?_; refine then_n ?_; refine WP_seq ?_; refine WP_block ?_; refine Wr ?_; refine Sm rfl ?_; refine Sf rfl rfl rfl rfl rfl (fld rfl rfl) ?_; refine S_load rfl rfl rfl rfl rfl ?_; refine L_fld (Rd.pers ‹_›) (ty rfl) rfl ?_; refine Sm rfl ?_; refine S_q rfl rfl rfl (Q_indexS ‹_› ‹_› rfl rfl rfl (elm rfl) rfl) ?_; refine Sf rfl rfl rfl rfl rfl (fld rfl rfl) ?_; refine S_load rfl rfl rfl rfl rfl ?_; refine L_elF ‹_› ‹_› ?_; rintro _ _ _ ⟨xa9_2, xb9_2, xm9_2, pl9_2, ql9_2, rfl, fl9_2⟩; refine LV_a (ty rfl) rfl ?_; refine S_c rfl rfl rfl (C_buildSlice rfl (elm rfl) (zer rfl) rfl ⟨_, _, _, rfl, rfl, rfl, rfl, rfl, rfl⟩ rfl rfl ?_); intro b9_3; refine S_w rfl rfl rfl (W_app1 [] _ hO rfl rfl rfl rfl rfl rfl (elm rfl) (zer rfl) rfl rfl rfl rfl rfl (by (try simp only [lA]); omega) (by (try simp only [lA]); omega) ?_); rintro p9_4 q9_4 m9_4 o9_4; refine Sm rfl ?_; refine On ?_; refine Wr ?_; refine Sm rfl ?_; refine On ?_; refine WP_block ?_))
      (refine WP_loopF (α := Nat × List ID × Option Addr × Nat × Hp) [7, 5, 4, 0] (fun (s : Nat × List ID × Option Addr × Nat × Hp) => ag.length - s.1) (fun (s : Nat × List ID × Option Addr × Nat × Hp) => s.2.2.2.2 ++ []) (fun (s : Nat × List ID × Option Addr × Nat × Hp) => [(8, .int .i64 (s.1 : Int)), (3, .slice s.2.2.1 s.2.1.length s.2.2.2.1)]) (fun hh (s : Nat × List ID × Option Addr × Nat × Hp) => hh = h3 ∧ s.1 ≤ ag.length ∧ s.2.1 = (o3 ++ [(t1, t2)]) ++ refsV (ag.take s.1) ∧ OS h3 35 2 IDC (.slice s.2.2.1 s.2.1.length s.2.2.2.1) s.2.1 s.2.2.2.2) (0, o3 ++ [(t1, t2)], p9_4, q9_4, m9_4) ⟨_, _, rfl, ⟨_, _, rfl, ⟨_, _, rfl, ⟨_, _, rfl, rfl, rfl⟩, rfl⟩, rfl⟩, rfl⟩ ?_ (by repeat' first | exact sR _ | exact sA _ _ | exact sN _ | apply s2 | apply s1) (by repeat' first | exact trivial | refine ⟨rfl, ?_⟩) ?_)
      · exact ⟨rfl, Nat.zero_le _, by simp [refsV_nil], o9_4⟩
      clear hO M p c
      rintro h4 ⟨r, o4, p, c, M⟩ _ ⟨rfl, hr, ho4, hO⟩
      simp only at hr ho4 hO
      dsimp only
      have ho4l : o4.length ≤ o3.length + 7 := by
        have := refsV_length (ag.take r)
        rw [List.length_take] at this
        rw [ho4]; simp only [List.length_append, List.length_cons, List.length_nil]; omega
      by_cases hlt4 : r < ag.length
      · obtain ⟨⟨f1, f2, i1, i2⟩, ex⟩ := get_of hlt4
        have htk := refsV_take ex
        (focus (refine WP_seq ?_; refine Wr ?_; refine Sm rfl ?_; refine Sf rfl rfl rfl rfl rfl (fld rfl rfl) ?_; refine S_load rfl rfl rfl rfl rfl ?_; refine L_fld (Rd.pers ‹_›) (ty rfl) rfl ?_; refine Sm rfl ?_; refine S_q rfl rfl rfl (Q_indexS ‹_› ‹_› rfl rfl rfl (elm rfl) rfl) ?_; refine Sf rfl rfl rfl rfl rfl (fld rfl rfl) ?_; refine S_load rfl rfl rfl rfl rfl ?_; refine L_elF ‹_› ‹_› ?_; rintro _ _ _ ⟨xa11_1, xb11_1, xm11_1, pl11_1, ql11_1, rfl, fl11_1⟩; refine LV_1 (ty rfl) rfl ?_; refine S_q rfl rfl rfl (Q_len rfl rfl rfl rfl rfl rfl) ?_; refine Sc rfl rfl rfl rfl rfl rfl rfl ?_; refine On ?_; refine WP_cond rfl (fun c11_2 => ?_) (fun c11_2 => ?_) <;> (first | (simp [*] at c11_2; done) | (try simp at c11_2)); refine WP_skip ?_; refine then_n ?_; refine WP_seq ?_; refine WP_block ?_; refine Wr ?_; refine Sf rfl rfl rfl rfl rfl (fld rfl rfl) ?_; refine S_load rfl rfl rfl rfl rfl ?_; refine L_fld (Rd.pers ‹_›) (ty rfl) rfl ?_; refine Sm rfl ?_; refine S_q rfl rfl rfl (Q_indexS ‹_› ‹_› rfl rfl rfl (elm rfl) rfl) ?_; refine Sf rfl rfl rfl rfl rfl (fld rfl rfl) ?_; refine S_load rfl rfl rfl rfl rfl ?_; refine L_elF ‹_› ‹_› ?_; rintro _ _ _ ⟨xa11_3, xb11_3, xm11_3, pl11_3, ql11_3, rfl, fl11_3⟩; refine LV_1 (ty rfl) rfl ?_; refine Sm rfl ?_; refine S_q rfl rfl rfl (Q_indexS ‹_› ‹_› rfl rfl rfl (elm rfl) rfl) ?_; refine Sf rfl rfl rfl rfl rfl (fld rfl rfl) ?_; refine S_load rfl rfl rfl rfl rfl ?_; refine L_elF ‹_› ‹_› ?_; rintro _ _ _ rfl; refine LV_1 (ty rfl) rfl ?_; refine Sc rfl rfl rfl rfl rfl rfl rfl ?_; refine On ?_; refine WP_cond rfl (fun c11_5 => ?_) (fun c11_5 => ?_) <;> (first | (simp [*] at c11_5; done) | (try simp at c11_5)); (focus (refine R_region ?_; refine Sm rfl ?_; refine Sf rfl rfl rfl rfl rfl (fld rfl rfl) ?_; refine S_load rfl rfl rfl rfl rfl ?_; refine L_fld (Rd.pers ‹_›) (ty rfl) rfl ?_; refine Sm rfl ?_; refine S_q rfl rfl rfl (Q_indexS ‹_› ‹_› rfl rfl rfl (elm rfl) rfl) ?_; refine Sf rfl rfl rfl rfl rfl (fld rfl rfl) ?_; refine S_load rfl rfl rfl rfl rfl ?_; refine L_elF ‹_› ‹_› ?_; rintro _ _ _ ⟨xa11_6, xb11_6, xm11_6, pl11_6, ql11_6, rfl, fl11_6⟩; refine LV_1 (ty rfl) rfl ?_; refine Sm rfl ?_; refine S_q rfl rfl rfl (Q_indexS ‹_› ‹_› rfl rfl rfl (elm rfl) rfl) ?_; refine Sf rfl rfl rfl rfl rfl (fld rfl rfl) ?_; refine S_load rfl rfl rfl rfl rfl ?_; refine L_elF ‹_› ‹_› ?_; rintro _ _ _ rfl; refine LV_a (ty rfl) rfl ?_; refine S_c rfl rfl rfl (C_buildSlice rfl (elm rfl) (zer rfl) rfl ⟨_, _, _, rfl, rfl, rfl, rfl, rfl, rfl⟩ rfl rfl ?_); intro b11_8; refine S_w rfl rfl rfl (W_app1 [] _ hO rfl rfl rfl rfl rfl rfl (elm rfl) (zer rfl) rfl rfl rfl rfl rfl (by (try simp only [lA]); omega) (by (try simp only [lA]); omega) ?_); rintro p11_9 q11_9 m11_9 o11_9; refine Sm rfl ?_; refine OPS_nil ?_; refine block_n ?_; refine then_n ?_; refine R_region ?_; refine Sm rfl ?_; refine S_q rfl rfl rfl (Q_add rfl rfl rfl (by omega)) ?_; refine Sm rfl ?_; refine OPS_nil ?_)); rotate_left 1; (focus (refine WP_skip ?_; refine block_n ?_; refine then_n ?_; refine R_region ?_; refine Sm rfl ?_; refine S_q rfl rfl rfl (Q_add rfl rfl rfl (by omega)) ?_; refine Sm rfl ?_; refine OPS_nil ?_)); rotate_left 1))
        · rw [if_pos c11_5] at htk
          refine roundF_n (r + 1, o4 ++ [(i1, i2)], p11_9, q11_9, m11_9) (by simp only; omega) ⟨rfl, by simp only; omega, ?_, o11_9⟩ (by repeat' first | exact sR _ | exact sA _ _ | exact sN _ | apply s2 | apply s1) (by repeat' first | exact trivial | refine ⟨rfl, ?_⟩)
          simp only; rw [htk, ho4]; simp only [List.append_assoc]
        · rw [if_neg c11_5, List.append_nil] at htk
          refine roundF_n (r + 1, o4, p, c, M) (by simp only; omega) ⟨rfl, by simp only; omega, ?_, hO⟩ (by repeat' first | exact sR _ | exact sA _ _ | exact sN _ | apply s2 | apply s1) (by repeat' first | exact trivial | refine ⟨rfl, ?_⟩)
          simp only; rw [htk, ho4]
      have hge : r = ag.length := by omega
      subst hge
      rw [List.take_length] at ho4
      (focus (refine WP_seq ?_; refine Wr ?_; refine Sm rfl ?_; refine Sf rfl rfl rfl rfl rfl (fld rfl rfl) ?_; refine S_load rfl rfl rfl rfl rfl ?_; refine L_fld (Rd.pers ‹_›) (ty rfl) rfl ?_; refine Sm rfl ?_; refine S_q rfl rfl rfl (Q_indexS ‹_› ‹_› rfl rfl rfl (elm rfl) rfl) ?_; refine Sf rfl rfl rfl rfl rfl (fld rfl rfl) ?_; refine S_load rfl rfl rfl rfl rfl ?_; refine L_elF ‹_› ‹_› ?_; rintro _ _ _ ⟨xa12_1, xb12_1, xm12_1, pl12_1, ql12_1, rfl, fl12_1⟩; refine LV_1 (ty rfl) rfl ?_; refine S_q rfl rfl rfl (Q_len rfl rfl rfl rfl rfl rfl) ?_; refine Sc rfl rfl rfl rfl rfl rfl rfl ?_; refine On ?_; refine WP_cond rfl (fun c12_2 => ?_) (fun c12_2 => ?_) <;> (first | (simp [*] at c12_2; done) | (try simp at c12_2)); refine WP_exit ?_; refine then_e ?_; refine roundF_e ?_; refine block_e ?_; refine block_n ?_; refine then_n ?_; refine R_region ?_; refine Sm rfl ?_; refine S_q rfl rfl rfl (Q_add rfl rfl rfl (by omega)) ?_; refine Sm rfl ?_; refine OPS_nil ?_))
      refine roundF_n (i + 1, o4, p, c, M) (by simp only; omega) ⟨rfl, by simp only; omega, ?_, hO⟩ (by repeat' first | exact sR _ | exact sA _ _ | exact sN _ | apply s2 | apply s1) (by repeat' first | exact trivial | refine ⟨rfl, ?_⟩)
      simp only; rw [hmt, ho4, ho3, mailIDs_def]; simp only [List.append_assoc, List.cons_append, List.nil_append]
    have hge3 : i = v.mail.length := by omega
    subst hge3
    rw [List.take_length] at ho3
    (focus (refine WP_seq ?_; refine Wr ?_; refine Sm rfl ?_; refine Sf rfl rfl rfl rfl rfl (fld rfl rfl) ?_; refine S_load rfl rfl rfl rfl rfl ?_; refine L_fld (Rd.pers ‹_›) (ty rfl) rfl ?_; refine S_q rfl rfl rfl (Q_len rfl rfl rfl rfl rfl rfl) ?_; refine Sc rfl rfl rfl rfl rfl rfl rfl ?_; refine On ?_; refine WP_cond rfl (fun c13_1 => ?_) (fun c13_1 => ?_) <;> (first | (simp [*] at c13_1; done) | (try simp at c13_1)); refine WP_exit ?_; refine then_e ?_; refine roundF_e ?_; refine block_e ?_; refine then_n ?_; refine Wr ?_; refine Sm rfl ?_; refine On ?_; refine WP_block ?_))
    (refine WP_loopF (α := Nat × List ID × Option Addr × Nat × Hp) [5, 4, 0] (fun (s : Nat × List ID × Option Addr × Nat × Hp) => v.flights.length - s.1) (fun (s : Nat × List ID × Option Addr × Nat × Hp) => s.2.2.2.2 ++ []) (fun (s : Nat × List ID × Option Addr × Nat × Hp) => [(9, .int .i64 (s.1 : Int)), (3, .slice s.2.2.1 s.2.1.length s.2.2.2.1)]) (fun hh (s : Nat × List ID × Option Addr × Nat × Hp) => le h3 hh ∧ s.1 ≤ v.flights.length ∧ s.2.1 = o3 ++ ((v.flights.take s.1).filter (flyB vs v)).flatMap (refFl vs v.machine) ∧ OS hh 35 2 IDC (.slice s.2.2.1 s.2.1.length s.2.2.2.1) s.2.1 s.2.2.2.2) (0, o3, p, c, M) ⟨_, _, rfl, ⟨_, _, rfl, ⟨_, _, rfl, rfl, rfl⟩, rfl⟩, rfl⟩ ?_ (by repeat' first | exact sR _ | exact sA _ _ | exact sN _ | apply s2 | apply s1) (by repeat' first | exact trivial | refine ⟨rfl, ?_⟩) ?_)
    · exact ⟨le_refl _, Nat.zero_le _, by simp, hO⟩
    clear hO M p c
    rintro h5 ⟨r, o5, p, c, M⟩ _ ⟨hl5, hr, ho5, hO⟩
    simp only at hr ho5 hO
    dsimp only
    (replace a4_k := a4_k.up hl5; replace hs := hs.up hl5; replace vo3_2 := vo3_2.up hl5; replace vs3_2 := vs3_2.up hl5; replace vc3_2 := vc3_2.up hl5; replace vn3_2 := vn3_2.up hl5; replace vm3_2 := vm3_2.up hl5; replace vf3_2 := vf3_2.up hl5; replace vr3_2 := vr3_2.up hl5)
    have ho5l : o5.length ≤ o3.length + 168 := by
      have := refFls_len sm hvm r
      rw [ho5, List.length_append]; omega
    by_cases hlt5 : r < v.flights.length
    · obtain ⟨x, ex⟩ := get_of hlt5
      have hxm := List.mem_of_getElem? ex
      have hx1 := sm.letter _ hvm _ hxm
      have hx2 := sm.pmail _ hvm _ hxm
      have hx3 := sm.pargs _ hvm _ hxm
      have hx4 := refFl_len sm hvm hxm
      cases hfy : flyB vs v x with
      | false =>
        have hfn := refFls_no ex hfy
        (focus (refine WP_seq ?_; refine Wr ?_; refine Sm rfl ?_; refine Sf rfl rfl rfl rfl rfl (fld rfl rfl) ?_; refine S_load rfl rfl rfl rfl rfl ?_; refine L_fld (Rd.pers ‹_›) (ty rfl) rfl ?_; refine S_q rfl rfl rfl (Q_len rfl rfl rfl rfl rfl rfl) ?_; refine Sc rfl rfl rfl rfl rfl rfl rfl ?_; refine On ?_; refine WP_cond rfl (fun c16_1 => ?_) (fun c16_1 => ?_) <;> (first | (simp [*] at c16_1; done) | (try simp at c16_1)); refine WP_skip ?_; refine then_n ?_; refine WP_seq ?_; refine WP_block ?_; refine WP_seq ?_; refine R_draw (n := 8) mixed rfl ?_; refine A_at 0 rfl rfl ?_; refine A_q (m' := 1) rfl rfl rfl (Q_move rfl rfl) rfl (by decide +kernel) ?_; refine A_at 1 rfl rfl ?_; refine A_load (m' := 3) rfl rfl rfl rfl rfl rfl (by decide +kernel) ?_; refine L_agg (Rd.pers ‹_›) (ty rfl) (by first | rfl | assumption) ?_; refine A_at 2 rfl rfl ?_; refine A_q (m' := 7) rfl rfl rfl (Q_fieldAddr rfl rfl (fld rfl rfl)) rfl (by decide +kernel) ?_; refine A_at 3 rfl rfl ?_; refine A_load (m' := 15) rfl rfl rfl rfl rfl rfl (by decide +kernel) ?_; refine L_fld (Rd.pers ‹_›) (ty rfl) rfl ?_; refine A_at 4 rfl rfl ?_; refine A_q (m' := 31) rfl rfl rfl (Q_move rfl rfl) rfl (by decide +kernel) ?_; refine A_at 5 rfl rfl ?_; refine A_q (m' := 63) rfl rfl rfl (Q_indexS ‹_› ‹_› rfl rfl rfl (elm rfl) rfl) rfl (by decide +kernel) ?_; refine A_at 6 rfl rfl ?_; refine A_load (m' := 127) rfl rfl rfl rfl rfl rfl (by decide +kernel) ?_; refine L_elA ‹_› ‹_› (ty rfl) ?_; rintro _ _ _ ⟨xa16_2, xb16_2, xc16_2, xd16_2, xe16_2, pa16_2, qa16_2, pf16_2, qf16_2, pm16_2, qm16_2, xw16_2, y116_2, y216_2, y316_2, y416_2, y516_2, y616_2, y716_2, y816_2, y916_2, y1016_2, y1116_2, y1216_2, y1316_2, y1416_2, y1516_2, rfl, ha16_2, hf16_2, hm16_2⟩; refine A_at 7 rfl rfl ?_; refine A_c (m' := 255) rfl rfl rfl rfl (by decide +kernel) (C_callv (refFlying_s ‹_› ⟨by assumption, _, _, _, _, _, _, _, _, _, _, _, _, _, _, _, _, _, _, _, rfl, by assumption, by assumption, by assumption, by assumption, by assumption, by assumption, by assumption⟩ ⟨_, _, _, _, _, _, _, _, _, _, _, _, _, _, _, _, _, _, _, _, _, _, _, _, _, _, _, rfl, by assumption, by assumption, by assumption⟩) rfl rfl ⟨_, _, rfl, ⟨_, _, rfl, ⟨_, _, rfl, rfl, rfl⟩, rfl⟩, rfl⟩ (cal rfl) ?_); refine A_done (by decide +kernel) ?_; refine then_n ?_; refine WP_cond rfl (fun c16_3 => ?_) (fun c16_3 => ?_) <;> (first | (simp [*] at c16_3; done) | (try simp at c16_3)); refine WP_skip ?_; refine block_n ?_; refine then_n ?_; refine R_region ?_; refine Sm rfl ?_; refine S_q rfl rfl rfl (Q_add rfl rfl rfl (by omega)) ?_; refine Sm rfl ?_; refine OPS_nil ?_))
        refine roundF_n (r + 1, o5, p, c, M) (by simp only; omega) ⟨hl5, by simp only; omega, ?_, hO⟩ (by repeat' first | exact sR _ | exact sA _ _ | exact sN _ | apply s2 | apply s1) (by repeat' first | exact trivial | refine ⟨rfl, ?_⟩)
        simp only; rw [hfn]; exact ho5
      | true =>
        have hfn := refFls_yes ex hfy
        (focus (refine WP_seq ?_; refine Wr ?_; refine Sm rfl ?_; refine Sf rfl rfl rfl rfl rfl (fld rfl rfl) ?_; refine S_load rfl rfl rfl rfl rfl ?_; refine L_fld (Rd.pers ‹_›) (ty rfl) rfl ?_; refine S_q rfl rfl rfl (Q_len rfl rfl rfl rfl rfl rfl) ?_; refine Sc rfl rfl rfl rfl rfl rfl rfl ?_; refine On ?_; refine WP_cond rfl (fun c17_1 => ?_) (fun c17_1 => ?_) <;> (first | (simp [*] at c17_1; done) | (try simp at c17_1)); refine WP_skip ?_; refine then_n ?_; refine WP_seq ?_; refine WP_block ?_; refine WP_seq ?_; refine R_draw (n := 8) mixed rfl ?_; refine A_at 0 rfl rfl ?_; refine A_q (m' := 1) rfl rfl rfl (Q_move rfl rfl) rfl (by decide +kernel) ?_; refine A_at 1 rfl rfl ?_; refine A_load (m' := 3) rfl rfl rfl rfl rfl rfl (by decide +kernel) ?_; refine L_agg (Rd.pers ‹_›) (ty rfl) (by first | rfl | assumption) ?_; refine A_at 2 rfl rfl ?_; refine A_q (m' := 7) rfl rfl rfl (Q_fieldAddr rfl rfl (fld rfl rfl)) rfl (by decide +kernel) ?_; refine A_at 3 rfl rfl ?_; refine A_load (m' := 15) rfl rfl rfl rfl rfl rfl (by decide +kernel) ?_; refine L_fld (Rd.pers ‹_›) (ty rfl) rfl ?_; refine A_at 4 rfl rfl ?_; refine A_q (m' := 31) rfl rfl rfl (Q_move rfl rfl) rfl (by decide +kernel) ?_; refine A_at 5 rfl rfl ?_; refine A_q (m' := 63) rfl rfl rfl (Q_indexS ‹_› ‹_› rfl rfl rfl (elm rfl) rfl) rfl (by decide +kernel) ?_; refine A_at 6 rfl rfl ?_; refine A_load (m' := 127) rfl rfl rfl rfl rfl rfl (by decide +kernel) ?_; refine L_elA ‹_› ‹_› (ty rfl) ?_; rintro _ _ _ ⟨xa17_2, xb17_2, xc17_2, xd17_2, xe17_2, pa17_2, qa17_2, pf17_2, qf17_2, pm17_2, qm17_2, xw17_2, y117_2, y217_2, y317_2, y417_2, y517_2, y617_2, y717_2, y817_2, y917_2, y1017_2, y1117_2, y1217_2, y1317_2, y1417_2, y1517_2, rfl, ha17_2, hf17_2, hm17_2⟩; refine A_at 7 rfl rfl ?_; refine A_c (m' := 255) rfl rfl rfl rfl (by decide +kernel) (C_callv (refFlying_s ‹_› ⟨by assumption, _, _, _, _, _, _, _, _, _, _, _, _, _, _, _, _, _, _, _, rfl, by assumption, by assumption, by assumption, by assumption, by assumption, by assumption, by assumption⟩ ⟨_, _, _, _, _, _, _, _, _, _, _, _, _, _, _, _, _, _, _, _, _, _, _, _, _, _, _, rfl, by assumption, by assumption, by assumption⟩) rfl rfl ⟨_, _, rfl, ⟨_, _, rfl, ⟨_, _, rfl, rfl, rfl⟩, rfl⟩, rfl⟩ (cal rfl) ?_); refine A_done (by decide +kernel) ?_; refine then_n ?_; refine WP_cond rfl (fun c17_3 => ?_) (fun c17_3 => ?_) <;> (first | (simp [*] at c17_3; done) | (try simp at c17_3)); refine R_draw (n := 12) mixed rfl ?_; refine A_at 0 rfl rfl ?_; refine A_q (m' := 1) rfl rfl rfl (Q_move rfl rfl) rfl (by decide +kernel) ?_; refine A_at 1 rfl rfl ?_; refine A_q (m' := 3) rfl rfl rfl (Q_move rfl rfl) rfl (by decide +kernel) ?_; refine A_at 2 rfl rfl ?_; refine A_q (m' := 7) rfl rfl rfl (Q_fieldAddr rfl rfl (fld rfl rfl)) rfl (by decide +kernel) ?_; refine A_at 3 rfl rfl ?_; refine A_load (m' := 15) rfl rfl rfl rfl rfl rfl (by decide +kernel) ?_; refine L_fld (Rd.pers ‹_›) (ty rfl) rfl ?_; refine A_at 4 rfl rfl ?_; refine A_q (m' := 31) rfl rfl rfl (Q_fieldAddr rfl rfl (fld rfl rfl)) rfl (by decide +kernel) ?_; refine A_at 5 rfl rfl ?_; refine A_load (m' := 63) rfl rfl rfl rfl rfl rfl (by decide +kernel) ?_; refine L_fld (Rd.pers ‹_›) (ty rfl) rfl ?_; refine A_at 6 rfl rfl ?_; refine A_q (m' := 127) rfl rfl rfl (Q_move rfl rfl) rfl (by decide +kernel) ?_; refine A_at 7 rfl rfl ?_; refine A_q (m' := 255) rfl rfl rfl (Q_indexS ‹_› ‹_› rfl rfl rfl (elm rfl) rfl) rfl (by decide +kernel) ?_; refine A_at 8 rfl rfl ?_; refine A_load (m' := 511) rfl rfl rfl rfl rfl rfl (by decide +kernel) ?_; refine L_elA ‹_› ‹_› (ty rfl) ?_; rintro _ _ _ ⟨xa17_4, xb17_4, xc17_4, xd17_4, xe17_4, pa17_4, qa17_4, pf17_4, qf17_4, pm17_4, qm17_4, xw17_4, y117_4, y217_4, y317_4, y417_4, y517_4, y617_4, y717_4, y817_4, y917_4, y1017_4, y1117_4, y1217_4, y1317_4, y1417_4, y1517_4, rfl, ha17_4, hf17_4, hm17_4⟩; refine A_at 9 rfl rfl ?_; refine A_c (m' := 1023) rfl rfl rfl rfl (by decide +kernel) (C_callF (refFlightRoots_s ‹_› ⟨_, _, _, _, _, _, _, _, _, _, _, _, _, _, _, _, _, _, _, _, _, _, _, _, _, _, _, rfl, by assumption, by assumption, by assumption⟩ ‹_› (by omega) (by omega) ‹_›) rfl rfl ⟨_, _, rfl, ⟨_, _, rfl, ⟨_, _, rfl, rfl, rfl⟩, rfl⟩, rfl⟩ (cal rfl) ?_); rintro h17_5 m17_5 _ l17_5 ⟨p17_5, q17_5, rfl, o17_5⟩; replace hO := hO.up l17_5; replace a4_k := a4_k.up l17_5; replace hs := hs.up l17_5; replace vo3_2 := vo3_2.up l17_5; replace vs3_2 := vs3_2.up l17_5; replace vc3_2 := vc3_2.up l17_5; replace vn3_2 := vn3_2.up l17_5; replace vm3_2 := vm3_2.up l17_5; replace vf3_2 := vf3_2.up l17_5; replace vr3_2 := vr3_2.up l17_5; replace ha17_2 := ha17_2.up l17_5; replace hf17_2 := hf17_2.up l17_5; replace hm17_2 := hm17_2.up l17_5; replace ha17_4 := ha17_4.up l17_5; replace hf17_4 := hf17_4.up l17_5; replace hm17_4 := hm17_4.up l17_5))
        refine A_at 10 rfl rfl ?_
        refine A_w (m' := 2047) rfl rfl rfl rfl rfl (by decide +kernel) (OPw_keepM [] m17_5 _ rfl fun h6 hl6 hm6 => ?_)
        refine W_appS (by_ := 16) [] _ (OS.up hO hl6) (OS.sl o17_5 hl6 IDC_mono hm6 (B := 4398046511104) (by omega)) rfl rfl rfl rfl rfl rfl (elm rfl) (zer rfl) rfl rfl (by omega) (by omega) ?_
        rintro p2 c2 M2 hO2
        clear o17_5 hO hm6
        (replace a4_k := a4_k.up hl6; replace hs := hs.up hl6; replace vo3_2 := vo3_2.up hl6; replace vs3_2 := vs3_2.up hl6; replace vc3_2 := vc3_2.up hl6; replace vn3_2 := vn3_2.up hl6; replace vm3_2 := vm3_2.up hl6; replace vf3_2 := vf3_2.up hl6; replace vr3_2 := vr3_2.up hl6; replace ha17_2 := ha17_2.up hl6; replace hf17_2 := hf17_2.up hl6; replace hm17_2 := hm17_2.up hl6; replace ha17_4 := ha17_4.up hl6; replace hf17_4 := hf17_4.up hl6; replace hm17_4 := hm17_4.up hl6)
        (focus (refine A_at 11 rfl rfl ?_; refine A_q (m' := 4095) rfl rfl rfl (Q_assign rfl rfl) rfl (by decide +kernel) ?_; refine A_done (by decide +kernel) ?_; refine block_n ?_; refine then_n ?_; refine R_region ?_; refine Sm rfl ?_; refine S_q rfl rfl rfl (Q_add rfl rfl rfl (by omega)) ?_; refine Sm rfl ?_; refine OPS_nil ?_))
        refine roundF_n (r + 1, _, p2, c2, M2) (by simp only; omega) ⟨le_trans hl5 (le_trans l17_5 hl6), by simp only; omega, ?_, hO2⟩ (by repeat' first | exact sR _ | exact sA _ _ | exact sN _ | apply s2 | apply s1) (by repeat' first | exact trivial | refine ⟨rfl, ?_⟩)
        simp only; rw [hfn, ho5, List.append_assoc]
    have hge5 : r = v.flights.length := by omega
    subst hge5
    rw [List.take_length] at ho5
    (focus (refine WP_seq ?_; refine Wr ?_; refine Sm rfl ?_; refine Sf rfl rfl rfl rfl rfl (fld rfl rfl) ?_; refine S_load rfl rfl rfl rfl rfl ?_; refine L_fld (Rd.pers ‹_›) (ty rfl) rfl ?_; refine S_q rfl rfl rfl (Q_len rfl rfl rfl rfl rfl rfl) ?_; refine Sc rfl rfl rfl rfl rfl rfl rfl ?_; refine On ?_; refine WP_cond rfl (fun c20_1 => ?_) (fun c20_1 => ?_) <;> (first | (simp [*] at c20_1; done) | (try simp at c20_1)); refine WP_exit ?_; refine then_e ?_; refine roundF_e ?_; refine block_e ?_; refine block_n ?_; refine then_n ?_; refine R_region ?_; refine Sm rfl ?_; refine S_q rfl rfl rfl (Q_add rfl rfl rfl (by omega)) ?_; refine Sm rfl ?_; refine OPS_nil ?_))
    refine roundF_n (k + 1, o5, p, c, M) (by simp only; omega) ⟨le_trans hl1 (le_trans l4_k hl5), by simp only; omega, ?_, hO⟩ (by repeat' first | exact sR _ | exact sA _ _ | exact sN _ | apply s2 | apply s1) (by repeat' first | exact trivial | refine ⟨rfl, ?_⟩)
    simp only; rw [hvt, refView1_def, ho5, ho3, hoo, hoe]; simp only [List.append_assoc]
  have hge : k = vs.length := by omega
  subst hge
  rw [List.take_length] at hoe
  have hoe' : out = refRaw vs := by rw [hoe, refRaw]
  refine WP_keepM [] M _ rfl fun h2 hl2 hm2 => ?_
  have hS : SL h2 2 IDC (.slice p out.length c) out := hO.sl hl2 IDC_mono hm2 (by omega)
  clear hO hm2 hoe
  (replace hs := hs.up hl2)
  (focus (refine WP_seq ?_; refine Wr ?_; refine Sm rfl ?_; refine Sm rfl ?_; refine S_q rfl rfl rfl (Q_len rfl rfl rfl rfl rfl rfl) ?_; refine Sc rfl rfl rfl rfl rfl rfl rfl ?_; refine On ?_; refine WP_cond rfl (fun c22_1 => ?_) (fun c22_1 => ?_) <;> (first | (simp [*] at c22_1; done) | (try simp at c22_1)); refine WP_exit ?_; refine then_e ?_; refine roundF_e ?_; refine block_e ?_; refine then_n ?_; refine Wr ?_; refine Sm rfl ?_; refine S_c rfl rfl rfl (C_call (refSet_s ‹_› (by omega)) rfl rfl ⟨_, _, rfl, rfl, rfl⟩ (cal rfl) ?_); rintro h22_2 _ l22_2 ⟨p22_2, q22_2, rfl, f22_2, g22_2⟩; replace hS := hS.up l22_2; replace hs := hs.up l22_2; refine S_q rfl rfl rfl (Q_build rfl (by decide +kernel) (zer rfl) rfl rfl) ?_; refine S_c rfl rfl rfl (C_buildSlice rfl (elm rfl) (zer rfl) rfl ⟨_, _, _, rfl, rfl, rfl, rfl, rfl, rfl⟩ rfl rfl ?_); intro b22_3))
  (focus (refine OPS_keepM [] [_] _ rfl ?_; rintro h23_k l23_k k23_k; have a23_k := at_of_keep k23_k; clear k23_k; replace f22_2 := f22_2.up l23_k; replace hS := hS.up l23_k; replace hs := hs.up l23_k))
  have hz : SL h23_k 2 IDC (.slice (some ⟨b22_3, 0, none⟩) [((0, 0) : ID)].length 1) [((0, 0) : ID)] := slb_of_at a23_k (Flat.one rfl rfl rfl) (by simp)
  have hsl := setL_length out
  have hfin : minusL (setL out) [(0, 0)] = rootsR vs := by rw [hoe', refRaw_roots]
  (focus (refine S_c rfl rfl rfl (C_call (refMinus_s ‹_› ‹_› (by omega)) rfl rfl ⟨_, _, rfl, ⟨_, _, rfl, rfl, rfl⟩, rfl⟩ (cal rfl) ?_); rintro h24_1 _ l24_1 ⟨p24_1, q24_1, rfl, f24_1, g24_1⟩; replace a23_k := a23_k.up l24_1; replace f22_2 := f22_2.up l24_1; replace hS := hS.up l24_1; replace hs := hs.up l24_1; replace hz := hz.up l24_1; refine Sm rfl ?_; refine On ?_; refine WP_ret ?_))
  refine pret (.inl rfl) rfl ⟨_, _, rfl, rfl, rfl⟩ ?_
  rw [← hfin]
  exact ⟨_, _, rfl, by assumption, by assumption⟩
theorem refReachable_s {h : Frag} {a : Value} {vs : List View} (hs : SL h 13 (ViewC 4398046511104) a vs) (sm : Small vs) : PSpec Tryz.prog 20 #[a] h (fun h' v => ∃ p c, v = .slice p (reachR vs).length c ∧ SL h' 2 IDC (.slice p (reachR vs).length c) (reachR vs)) := by
  obtain ⟨_, hgl, hgf⟩ := sm.graph
  have hrl := roots_len sm
  obtain ⟨pv, cv, rfl⟩ := hs.slice
  refine pspec_of (vs := [.slice pv vs.length cv]) Tryz.func20 Tryz.ntmps20 rfl rfl ?_
  (focus (refine Wr ?_; refine Sm rfl ?_; refine On ?_; refine Wr ?_; refine Sm rfl ?_; refine S_c rfl rfl rfl (C_call (refGraph_s ‹_› ‹_›) rfl rfl ⟨_, _, rfl, rfl, rfl⟩ (cal rfl) ?_); rintro h0_1 _ l0_1 ⟨_, rfl, pg0_1, qg0_1, rfl, fg0_1⟩; replace hs := hs.up l0_1; refine Sm rfl ?_; refine S_q rfl rfl rfl (Q_extract rfl rfl rfl) ?_; refine S_q rfl rfl rfl (Q_extract rfl rfl rfl) ?_; refine S_c rfl rfl rfl (C_alloc rfl (zer rfl) ?_); intro b0_2; refine S_w0 rfl rfl (W_all rfl rfl rfl (ty rfl) u0 (by first | rfl | assumption) (by first | rfl | assumption) (by first | rfl | assumption | exact ones_sub ‹_› _ _) ?_); refine Sm rfl ?_; refine On ?_; refine WP_seq ?_; refine Wr ?_; refine Sm rfl ?_; refine Sc rfl rfl rfl rfl rfl rfl rfl ?_; refine On ?_; refine WP_cond rfl (fun c0_3 => ?_) (fun c0_3 => ?_) <;> (first | (simp [*] at c0_3; done) | (try simp at c0_3)); (focus (refine Wr ?_; refine Sm rfl ?_; refine On ?_; refine WP_ret ?_; refine then_r ?_)); rotate_left 1; (focus (refine WP_skip ?_; refine then_n ?_)); rotate_left 1))
  · refine pret (.inl rfl) rfl ⟨_, _, rfl, rfl, rfl⟩ ?_
    rw [reachR, if_neg c0_3]
    exact ⟨_, _, rfl, SLB.nil _ _ _ _ _ _⟩
  · have hre : reachR vs = reachL (graphR vs).1 (rootsR vs) := by rw [reachR, if_pos c0_3]
    rw [hre]
    (focus (refine WP_keepM [] [_] _ rfl ?_; rintro h1_k l1_k k1_k; have a1_k := at_of_keep k1_k; clear k1_k; replace fg0_1 := fg0_1.up l1_k; replace hs := hs.up l1_k))
    (focus (refine WP_seq ?_; refine R_draw (n := 5) mixed rfl ?_; refine A_at 0 rfl rfl ?_; refine A_load (m' := 1) rfl rfl rfl rfl rfl rfl (by decide +kernel) ?_; refine L_agg (Rd.pers ‹_›) (ty rfl) (by first | rfl | assumption) ?_; refine A_at 1 rfl rfl ?_; refine A_q (m' := 3) rfl rfl rfl (Q_move rfl rfl) rfl (by decide +kernel) ?_; refine A_at 2 rfl rfl ?_; refine A_c (m' := 7) rfl rfl rfl rfl (by decide +kernel) (C_call (refRoots_s ‹_› ‹_›) rfl rfl ⟨_, _, rfl, rfl, rfl⟩ (cal rfl) ?_); rintro h2_1 _ l2_1 ⟨p2_1, q2_1, rfl, f2_1, g2_1⟩; replace a1_k := a1_k.up l2_1; replace fg0_1 := fg0_1.up l2_1; replace hs := hs.up l2_1; refine A_at 3 rfl rfl ?_; refine A_c (m' := 15) rfl rfl rfl rfl (by decide +kernel) (C_call (refReach_s ⟨_, _, rfl, by assumption⟩ ‹_› (by omega) (by omega) ‹_›) rfl rfl ⟨_, _, rfl, ⟨_, _, rfl, rfl, rfl⟩, rfl⟩ (cal rfl) ?_); rintro h2_2 _ l2_2 ⟨p2_2, q2_2, rfl, f2_2⟩; replace f2_1 := f2_1.up l2_2; replace a1_k := a1_k.up l2_2; replace fg0_1 := fg0_1.up l2_2; replace hs := hs.up l2_2; refine A_at 4 rfl rfl ?_; refine A_q (m' := 31) rfl rfl rfl (Q_assign rfl rfl) rfl (by decide +kernel) ?_; refine A_done (by decide +kernel) ?_; refine then_n ?_; refine WP_ret ?_))
    refine pret (.inl rfl) rfl ⟨_, _, rfl, rfl, rfl⟩ ?_
    exact ⟨_, _, rfl, by assumption⟩
end Go.Proofs.YtfhoecgiahpddaaGreat
/-
  CONTRACTS: slices.Grow and slices.Concat at identities.
-/
set_option linter.all false
namespace Go.Proofs.YtfhoecgiahpddaaGreat
open Go.Mesh Go.RowKit
set_option maxRecDepth 100000
set_option linter.unusedVariables false
set_option maxHeartbeats 4000000
attribute [local irreducible] WP OPS ANY ANYo LG LV FSpec PSpec QOP OPc OPw thenQ blockQ roundQ roundF retQ retM Rd At SLB OS cmpI orI cmpID namedB valB nodeB kindB validG valAux idxI findG zeroV viewOf vwAt idxOf recv flyB scionOf moveOf numberedOf idOf valueOf mget mput localB carriedB stubOf followF followOf flOf flightsOf flPre setL minusL compactL putI mergeN insN insAll unionR NMap Coll retN bodyS GMap Dfs refsV refsOf reachL movedOf movedG graphParts graphR isMove flightIDs mailIDs viewIDs rawRoots rootsR reachR deadN viewObjs garbageOf garbageR objsL
def IDsC (B : Nat) : CR (List ID) := fun h l vs => ∃ p c, vs = [.slice p l.length c] ∧ SLB B h 2 IDC (.slice p l.length c) l
instance (B : Nat) : CM (IDsC B) := ⟨fun _ _ _ _ hl ⟨p, c, e, s⟩ => ⟨p, c, e, s.mono hl IDC_mono⟩⟩
theorem flat_take {α : Type} {ls : List (List α)} {k : Nat} {l : List α} (hl : ls[k]? = some l) : (ls.take (k + 1)).flatten = (ls.take k).flatten ++ l := by
  rw [List.take_add_one, hl]; simp
theorem flat_take_le {α : Type} (ls : List (List α)) (k : Nat) : (ls.take k).flatten.length ≤ ls.flatten.length := by
  conv => rhs; rw [← List.take_append_drop k ls, List.flatten_append, List.length_append]
  omega
theorem grow_s {h : Frag} {n : Nat} (hn : n ≤ 4398046511104) : FSpec Tryz.prog 107 #[.slice none 0 0, .int .i64 (n : Int)] h [] (fun h' L' v => h' = h ∧ ∃ p c, v = .slice p ([] : List ID).length c ∧ OS h 35 2 IDC (.slice p ([] : List ID).length c) [] L') := by
  refine spec_of (vs := [.slice none 0 0, .int .i64 (n : Int)]) Tryz.func107 Tryz.ntmps107 rfl rfl rfl ?_
  (focus (refine Wr ?_; refine Sm rfl ?_; refine On ?_; refine WP_seq ?_; refine Wr ?_; refine Sm rfl ?_; refine Sc rfl rfl rfl rfl rfl rfl rfl ?_; refine On ?_; refine cond_f rfl ?_; refine WP_skip ?_; refine then_n ?_; refine WP_seq ?_; refine Wr ?_; refine Sm rfl ?_; refine Sm rfl ?_; refine S_q rfl rfl rfl (Q_cap rfl rfl rfl rfl rfl rfl) ?_; refine Sm rfl ?_; refine S_q rfl rfl rfl (Q_len rfl rfl rfl rfl rfl rfl) ?_; refine S_q rfl rfl rfl (Q_sub rfl rfl rfl (by omega)) ?_; refine S_q rfl rfl rfl (Q_sub rfl rfl rfl (by omega)) ?_; refine Sm rfl ?_; refine On ?_; refine Wr ?_; refine Sm rfl ?_; refine Sc rfl rfl rfl rfl rfl rfl rfl ?_; refine On ?_; refine WP_cond rfl (fun c0_1 => ?_) (fun c0_1 => ?_) <;> (first | (simp [*] at c0_1; done) | (try simp at c0_1)); (focus (refine R_region ?_; refine Sm rfl ?_; refine Sm rfl ?_; refine S_q rfl rfl rfl (Q_cap rfl rfl rfl rfl rfl rfl) ?_; refine S_q rfl rfl rfl (Q_slice0 rfl rfl (elm rfl) rfl rfl) ?_; refine Sm rfl ?_)); rotate_left 1; (focus (refine WP_skip ?_; refine then_n ?_; refine Wr ?_; refine Sm rfl ?_; refine Sm rfl ?_; refine On ?_; refine WP_ret ?_)); rotate_left 1))
  · refine S_c rfl rfl rfl (C_appZ n rfl rfl rfl rfl rfl rfl (by simp) (elm rfl) (zer rfl) rfl (by rfl) (by omega) (by decide) (by omega) (by omega) ?_)
    rintro b cap rest hc hl
    (focus (refine Sm rfl ?_; refine S_q rfl rfl rfl (Q_len rfl rfl rfl rfl rfl rfl) ?_; refine S_q rfl rfl rfl (Q_slice rfl rfl (elm rfl) rfl ⟨_, rfl⟩ (by omega) (by omega) (by omega)) ?_; refine Sm rfl ?_; refine On ?_; refine Wr ?_; refine Sm rfl ?_; refine Sm rfl ?_; refine On ?_; refine WP_ret ?_))
    exact ret_q [(b, cells rest 35)] (.inl rfl) rfl ⟨_, _, rfl, rfl, rfl⟩ (by repeat' first | exact sR _ | exact sA _ _ | exact sN _ | apply s2 | apply s1) ⟨rfl, some ⟨b, 0, none⟩, cap, rfl, OS.make (xs := []) (rest := rest) rfl (Nat.zero_le _) (by simpa [flatI] using hl)⟩
  · subst c0_1
    exact ret_q [] (.inl rfl) rfl ⟨_, _, rfl, rfl, rfl⟩ (by repeat' first | exact sR _ | exact sA _ _ | exact sN _ | apply s2 | apply s1) ⟨rfl, _, _, rfl, OS.nil _ _ _ _⟩
theorem concat_s {h : Frag} {a : Value} {ls : List (List ID)} (hs : SL h 1 (IDsC 4398046511104) a ls) (hb : ls.flatten.length ≤ 4000000) : FSpec Tryz.prog 64 #[a] h [] (fun h' L' v => h' = h ∧ ∃ p c, v = .slice p ls.flatten.length c ∧ OS h 35 2 IDC (.slice p ls.flatten.length c) ls.flatten L') := by
  have hl := hs.le
  obtain ⟨pv, cv, rfl⟩ := hs.slice
  refine spec_of (vs := [.slice pv ls.length cv]) Tryz.func64 Tryz.ntmps64 rfl rfl rfl ?_
  (focus (refine Wr ?_; refine Sm rfl ?_; refine On ?_; refine Wr ?_; refine Sm rfl ?_; refine On ?_; refine WP_seq ?_; refine Wr ?_; refine Sm rfl ?_; refine S_q rfl rfl rfl (Q_len rfl rfl rfl rfl rfl rfl) ?_; refine Sm rfl ?_; refine On ?_; refine WP_block ?_))
  (refine WP_loopC (α := Nat) [10, 9, 0] (fun (k : Nat) => ls.length - k) (fun (k : Nat) => [(11, .int .i64 (k : Int)), (3, .int .i64 (((ls.take k).flatten.length : Nat) : Int))]) (fun hh (k : Nat) => hh = h ∧ k ≤ ls.length) 0 ⟨_, _, rfl, ⟨_, _, rfl, ⟨_, _, rfl, rfl, rfl⟩, rfl⟩, rfl⟩ (by repeat' first | exact trivial | refine ⟨rfl, ?_⟩) ?_ ?_)
  · exact ⟨rfl, Nat.zero_le _⟩
  rintro h1 k _ ⟨rfl, hk⟩
  have hle := flat_take_le ls k
  by_cases hlt : k < ls.length
  · obtain ⟨l, el⟩ := get_of hlt
    have htk := flat_take el
    have hle2 := flat_take_le ls (k + 1)
    rw [htk, List.length_append] at hle2
    (focus (refine Wr ?_; refine Sc rfl rfl rfl rfl rfl rfl rfl ?_; refine On ?_; refine WP_seq ?_; refine WP_cond rfl (fun c2_1 => ?_) (fun c2_1 => ?_) <;> (first | (simp [*] at c2_1; done) | (try simp at c2_1)); refine WP_skip ?_; refine then_n ?_; refine WP_seq ?_; refine WP_block ?_; refine Wr ?_; refine S_q rfl rfl rfl (Q_indexS ‹_› ‹_› rfl rfl rfl (elm rfl) rfl) ?_; refine S_load rfl rfl rfl rfl rfl ?_; refine L_el1 ‹_› ‹_› (ty rfl) ?_; rintro _ ⟨pi2_2, qi2_2, ⟨⟩, fi2_2⟩; refine Sm rfl ?_; refine On ?_; refine Wr ?_; refine Sm rfl ?_; refine Sm rfl ?_; refine S_q rfl rfl rfl (Q_len rfl rfl rfl rfl rfl rfl) ?_; refine S_q rfl rfl rfl (Q_add rfl rfl rfl (by omega)) ?_; refine Sm rfl ?_; refine On ?_; refine Wr ?_; refine Sm rfl ?_; refine Sc rfl rfl rfl rfl rfl rfl rfl ?_; refine On ?_; refine cond_f rfl ?_; refine WP_skip ?_; refine block_n ?_; refine then_n ?_; refine R_region ?_; refine S_q rfl rfl rfl (Q_add rfl rfl rfl (by omega)) ?_; refine Sm rfl ?_; refine OPS_nil ?_))
    refine roundF_n (k + 1) (by omega) ⟨rfl, by omega⟩ (by repeat' first | exact sR _ | exact sA _ _ | exact sN _ | apply s2 | apply s1) ?_
    rw [htk, List.length_append, Int.natCast_add]
    exact (by repeat' first | exact trivial | refine ⟨rfl, ?_⟩)
  have hge : k = ls.length := by omega
  subst hge
  rw [List.take_length]
  (focus (refine Wr ?_; refine Sc rfl rfl rfl rfl rfl rfl rfl ?_; refine On ?_; refine WP_seq ?_; refine WP_cond rfl (fun c3_1 => ?_) (fun c3_1 => ?_) <;> (first | (simp [*] at c3_1; done) | (try simp at c3_1)); refine WP_exit ?_; refine then_e ?_; refine roundF_e ?_; refine block_e ?_; refine then_n ?_; refine Wr ?_; refine Sm rfl ?_; refine S_c rfl rfl rfl (C_callF (grow_s (by omega)) rfl rfl ⟨_, _, rfl, ⟨_, _, rfl, rfl, rfl⟩, rfl⟩ (cal rfl) ?_); rintro h3_2 m3_2 _ l3_2 ⟨e3_2, p3_2, q3_2, rfl, o3_2⟩; replace hs := hs.up l3_2; replace o3_2 := o3_2.up l3_2; refine Sm rfl ?_; refine On ?_; refine WP_seq ?_; refine Wr ?_; refine Sm rfl ?_; refine S_q rfl rfl rfl (Q_len rfl rfl rfl rfl rfl rfl) ?_; refine Sm rfl ?_; refine On ?_; refine WP_block ?_))
  subst e3_2
  clear hle
  (refine WP_loopF (α := Nat × List ID × Option Addr × Nat × Hp) [26, 25] (fun (s : Nat × List ID × Option Addr × Nat × Hp) => ls.length - s.1) (fun (s : Nat × List ID × Option Addr × Nat × Hp) => s.2.2.2.2 ++ []) (fun (s : Nat × List ID × Option Addr × Nat × Hp) => [(27, .int .i64 (s.1 : Int)), (6, .slice s.2.2.1 s.2.1.length s.2.2.2.1)]) (fun hh (s : Nat × List ID × Option Addr × Nat × Hp) => hh = h3_2 ∧ s.1 ≤ ls.length ∧ s.2.1 = (ls.take s.1).flatten ∧ OS h3_2 35 2 IDC (.slice s.2.2.1 s.2.1.length s.2.2.2.1) s.2.1 s.2.2.2.2) (0, [], p3_2, q3_2, m3_2) ⟨_, _, rfl, ⟨_, _, rfl, rfl, rfl⟩, rfl⟩ ?_ (by repeat' first | exact sR _ | exact sA _ _ | exact sN _ | apply s2 | apply s1) (by repeat' first | exact trivial | refine ⟨rfl, ?_⟩) ?_)
  · exact ⟨rfl, Nat.zero_le _, rfl, o3_2⟩
  clear o3_2
  rintro h2 ⟨k, out, p, c, M⟩ _ ⟨rfl, hk, ho, hO⟩
  simp only at hk ho hO
  dsimp only
  have hle := flat_take_le ls k
  rw [← ho] at hle
  by_cases hlt : k < ls.length
  · obtain ⟨l, el⟩ := get_of hlt
    have htk := flat_take el
    have hle2 := flat_take_le ls (k + 1)
    rw [htk, ← ho, List.length_append] at hle2
    (focus (refine Wr ?_; refine Sc rfl rfl rfl rfl rfl rfl rfl ?_; refine On ?_; refine WP_seq ?_; refine WP_cond rfl (fun c5_1 => ?_) (fun c5_1 => ?_) <;> (first | (simp [*] at c5_1; done) | (try simp at c5_1)); refine WP_skip ?_; refine then_n ?_; refine WP_seq ?_; refine WP_block ?_; refine Wr ?_; refine S_q rfl rfl rfl (Q_indexS ‹_› ‹_› rfl rfl rfl (elm rfl) rfl) ?_; refine S_load rfl rfl rfl rfl rfl ?_; refine L_el1 ‹_› ‹_› (ty rfl) ?_; rintro _ ⟨pi5_2, qi5_2, ⟨⟩, fi5_2⟩; refine Sm rfl ?_; refine On ?_; refine R_region ?_; refine Sm rfl ?_; refine Sm rfl ?_; refine S_w rfl rfl rfl (W_appS [] _ ‹_› ‹_› rfl rfl rfl rfl rfl rfl (elm rfl) (zer rfl) rfl rfl (by (try simp only [lA]); omega) (by (try simp only [lA]); omega) ?_); rintro p5_3 q5_3 m5_3 o5_3; refine Sm rfl ?_; refine OPS_nil ?_; refine block_n ?_; refine then_n ?_; refine R_region ?_; refine S_q rfl rfl rfl (Q_add rfl rfl rfl (by omega)) ?_; refine Sm rfl ?_; refine OPS_nil ?_))
    refine roundF_n (k + 1, out ++ l, p5_3, q5_3, m5_3) (by simp only; omega) ⟨rfl, by simp only; omega, ?_, o5_3⟩ (by repeat' first | exact sR _ | exact sA _ _ | exact sN _ | apply s2 | apply s1) (by repeat' first | exact trivial | refine ⟨rfl, ?_⟩)
    simp only; rw [htk, ho]
  have hge : k = ls.length := by omega
  subst hge
  rw [List.take_length] at ho
  subst ho
  (focus (refine Wr ?_; refine Sc rfl rfl rfl rfl rfl rfl rfl ?_; refine On ?_; refine WP_seq ?_; refine WP_cond rfl (fun c6_1 => ?_) (fun c6_1 => ?_) <;> (first | (simp [*] at c6_1; done) | (try simp at c6_1)); refine WP_exit ?_; refine then_e ?_; refine roundF_e ?_; refine block_e ?_; refine then_n ?_; refine Wr ?_; refine Sm rfl ?_; refine Sm rfl ?_; refine On ?_; refine WP_ret ?_))
  exact ret_q M (.inl rfl) rfl ⟨_, _, rfl, rfl, rfl⟩ (by repeat' first | exact sR _ | exact sA _ _ | exact sN _ | apply s2 | apply s1) ⟨rfl, p, c, rfl, hO⟩
end Go.Proofs.YtfhoecgiahpddaaGreat
/-
  CONTRACTS: observer.Safe.
-/
set_option linter.all false
namespace Go.Proofs.YtfhoecgiahpddaaGreat
open Go.Mesh Go.RowKit
set_option maxRecDepth 100000
set_option linter.unusedVariables false
set_option maxHeartbeats 4000000
attribute [local irreducible] WP OPS ANY ANYo LG LV FSpec PSpec QOP OPc OPw thenQ blockQ roundQ roundF retQ retM Rd At SLB OS cmpI orI cmpID namedB valB nodeB kindB validG valAux idxI findG zeroV viewOf vwAt idxOf recv flyB scionOf moveOf numberedOf idOf valueOf mget mput localB carriedB stubOf followF followOf flOf flightsOf flPre setL minusL compactL putI mergeN insN insAll unionR NMap Coll retN bodyS GMap Dfs refsV refsOf reachL movedOf movedG graphParts graphR isMove flightIDs mailIDs viewIDs rawRoots rootsR reachR deadN viewObjs garbageOf garbageR objsL
def thereB (g : List Nd) (id : ID) : Bool := match findG g id with | some n => decide (n.kind ≠ 3) | none => false
def oddB (g : List Nd) (v : Val) : Bool := decide (v.1 = 2) && !thereB g v.2.2
def badNode (g : List Nd) (n : Nd) : Bool := decide (n.kind ≠ 2) && n.fields.any (oddB g)
def lostF (vs : List View) (i : View × Flight) : Bool := decide (i.2.msg.kind = 0) && decide (numberedOf vs i.1.machine i.2.to i.2.msg.number = (0, 0))
def badStub (vs : List View) (live : List ID) (v : View) (s : StubE) : Bool := !s.weak && (!s.dead && (decide (s.id ∈ live) && decide ((followOf vs v.machine s.id).2 ≠ 0)))
def safe4 (vs : List View) (live : List ID) : Int := if vs.any (fun v => v.stubs.any (badStub vs live v)) then 11 else 0
def safe3 (vs : List View) (live : List ID) : Int := if (flightsOf vs).any (lostF vs) then 6 else safe4 vs live
def safe2 (vs : List View) (g : List Nd) (live : List ID) : Int := if live.any (fun id => badNode g ((findG g id).getD zeroN)) then 6 else safe3 vs live
def safe1 (vs : List View) (g : List Nd) (live roots : List ID) : Int := if (live ++ roots).any (fun id => !thereB g id) then 6 else safe2 vs g live
noncomputable def safeR (vs : List View) : Int := if (graphR vs).2 = 0 then safe1 vs (graphR vs).1 (reachL (graphR vs).1 (rootsR vs)) (rootsR vs) else (graphR vs).2
theorem badNode_weak {g : List Nd} {n : Nd} (h : n.kind = 2) : badNode g n = false := by simp [badNode, h]
theorem badNode_any {g : List Nd} {n : Nd} (h : ¬ n.kind = 2) : badNode g n = n.fields.any (oddB g) := by simp [badNode, h]
theorem lostF_other {vs : List View} {i : View × Flight} (h : ¬ i.2.msg.kind = 0) : lostF vs i = false := by simp [lostF, h]
theorem lostF_zero {vs : List View} {i : View × Flight} (h : i.2.msg.kind = 0) : lostF vs i = decide (numberedOf vs i.1.machine i.2.to i.2.msg.number = (0, 0)) := by simp [lostF, h]
theorem badStub_def (vs : List View) (live : List ID) (v : View) (s : StubE) : badStub vs live v s = (!s.weak && (!s.dead && (decide (s.id ∈ live) && decide ((followOf vs v.machine s.id).2 ≠ 0)))) := rfl
attribute [local irreducible] thereB oddB badNode lostF badStub safe1 safe2 safe3 safe4 safeR
theorem there_s {h : Frag} {g : List Nd} {us : List Value} {b : Nat} {id : ID} (hb : At h b 0 us) (hg : GraphC 4398046511104 h g us) : PSpec Tryz.prog 63 ([Value.agg (idc id).toArray] ++ [ptr b 0]).toArray h (fun _ v => v = .bool (thereB g id)) := by
  obtain ⟨p, c, rfl, hf⟩ := hg
  obtain ⟨i1, i2⟩ := id
  refine pspec_of (vs := [.agg (idc (i1, i2)).toArray, ptr b 0]) Tryz.func63 Tryz.ntmps63 rfl rfl ?_
  (focus (refine Wr ?_; refine S_c rfl rfl rfl (C_box rfl rfl ?_); intro b0_1; refine Sm rfl ?_; refine On ?_; refine Wr ?_; refine S_load rfl rfl rfl rfl rfl ?_; refine L_agg (Rd.pers ‹_›) (ty rfl) (by first | rfl | assumption) ?_; refine S_load rfl rfl rfl rfl rfl ?_; refine L_agg (Rd.own m0) (ty rfl) (by first | rfl | assumption) ?_; refine S_c rfl rfl rfl (C_call (find_s ⟨_, _, rfl, by assumption⟩) rfl rfl ⟨_, _, rfl, ⟨_, _, rfl, rfl, rfl⟩, rfl⟩ (cal rfl) ?_); rintro h0_2 _ l0_2 ⟨vf0_2, rfl, pn0_2, qn0_2, rfl, fn0_2⟩; replace hf := hf.up l0_2; replace hb := hb.up l0_2; refine Sm rfl ?_; refine S_q rfl rfl rfl (Q_extract rfl rfl rfl) ?_; refine S_q rfl rfl rfl (Q_extract rfl rfl rfl) ?_; refine S_c rfl rfl rfl (C_alloc rfl (zer rfl) ?_); intro b0_3; refine S_w0 rfl rfl (W_all rfl rfl rfl (ty rfl) u0 (by first | rfl | assumption) (by first | rfl | assumption) (by first | rfl | assumption | exact ones_sub ‹_› _ _) ?_); refine Sm rfl ?_; refine On ?_; refine Wr ?_; refine Sm rfl ?_; refine Sm rfl ?_; refine S_gsplit rfl rfl rfl rfl (fun c0_4 => ?_) (fun c0_4 => ?_) <;> (first | (simp [*] at c0_4; done) | (try simp at c0_4)); (focus (refine S_gq rfl rfl rfl rfl rfl rfl (Q_fieldAddr rfl rfl (fld rfl rfl)) ?_; refine S_gload rfl rfl rfl rfl rfl rfl rfl rfl ?_; refine L_fld (Rd.own m0) (ty rfl) rfl ?_; refine S_gq rfl rfl rfl rfl rfl rfl (Q_cmp rfl rfl rfl rfl) ?_; refine S_q rfl rfl rfl (Q_pick_t rfl rfl rfl) ?_; refine Sm rfl ?_; refine On ?_; refine WP_ret ?_)); rotate_left 1; (focus (refine Sn rfl ?_; refine Sn rfl ?_; refine Sn rfl ?_; refine S_q rfl rfl rfl (Q_pick_f rfl rfl rfl) ?_; refine Sm rfl ?_; refine On ?_; refine WP_ret ?_)); rotate_left 1))
  all_goals refine pret (.inl rfl) rfl ⟨_, _, rfl, rfl, rfl⟩ ?_
  all_goals (rw [thereB]; cases hx : findG g (i1, i2) <;> simp_all [resOf]; try rfl)
theorem odd_s {h : Frag} {g : List Nd} {us : List Value} {b b8 : Nat} {v : Val} (h8 : At h b8 0 [.func (.func 63) #[] #[ptr b 0]]) (hb : At h b 0 us) (hg : GraphC 4398046511104 h g us) : PSpec Tryz.prog 65 ([Value.agg (vlc v).toArray] ++ [ptr b8 0]).toArray h (fun _ u => u = .bool (oddB g v)) := by
  obtain ⟨v1, v2, v3, v4⟩ := v
  have hfn := fun id : ID => there_s (id := id) hb hg
  have hcal : callOk Tryz.prog 63 = true := cal rfl
  refine pspec_of (vs := [.agg (vlc (v1, v2, v3, v4)).toArray, ptr b8 0]) Tryz.func65 Tryz.ntmps65 rfl rfl ?_
  (focus (refine Wr ?_; refine S_c rfl rfl rfl (C_box rfl rfl ?_); intro b0_1; refine Sm rfl ?_; refine On ?_; refine Wr ?_; refine Sf rfl rfl rfl rfl rfl (fld rfl rfl) ?_; refine S_load rfl rfl rfl rfl rfl ?_; refine L_fld (Rd.own m0) (ty rfl) rfl ?_; refine Sc rfl rfl rfl rfl rfl rfl rfl ?_; refine Sm rfl ?_; refine S_gsplit rfl rfl rfl rfl (fun c0_2 => ?_) (fun c0_2 => ?_) <;> (first | (simp [*] at c0_2; done) | (try simp at c0_2)); (focus (refine S_gload rfl rfl rfl rfl rfl rfl rfl rfl ?_; refine L_one (Rd.pers ‹_›) (ty rfl) ?_; refine S_gq rfl rfl rfl rfl rfl rfl (Q_fieldAddr rfl rfl (fld rfl rfl)) ?_; refine S_gload rfl rfl rfl rfl rfl rfl rfl rfl ?_; refine L_sub (Rd.own m0) (ty rfl) rfl ?_; refine S_gc rfl rfl rfl rfl rfl rfl (C_callCv (hfn _) rfl rfl rfl ⟨_, _, rfl, rfl, rfl⟩ hcal ?_); refine S_gq rfl rfl rfl rfl rfl rfl (Q_not rfl rfl) ?_; refine S_q rfl rfl rfl (Q_pick_t rfl rfl rfl) ?_; refine Sm rfl ?_; refine On ?_; refine WP_ret ?_)); rotate_left 1; (focus (refine Sn rfl ?_; refine Sn rfl ?_; refine Sn rfl ?_; refine Sn rfl ?_; refine Sn rfl ?_; refine S_q rfl rfl rfl (Q_pick_f rfl rfl rfl) ?_; refine Sm rfl ?_; refine On ?_; refine WP_ret ?_)); rotate_left 1))
  all_goals refine pret (.inl rfl) rfl ⟨_, _, rfl, rfl, rfl⟩ ?_
  all_goals (simp_all [resOf, oddB]; try rfl)
theorem safe_s {h : Frag} {a : Value} {vs : List View} (hs : SL h 13 (ViewC 4398046511104) a vs) (sm : Small vs) : PSpec Tryz.prog 25 #[a] h (fun _ v => v = .int .i64 (safeR vs)) := by
  have hlen := sm.len
  obtain ⟨_, hgl, hgf⟩ := sm.graph
  have hrl := roots_len sm
  obtain ⟨pv, cv, rfl⟩ := hs.slice
  refine pspec_ofN (vs := [.slice pv vs.length cv]) Tryz.func25 Tryz.ntmps25 rfl rfl ?_
  (focus (refine Wr ?_; refine S_c rfl rfl rfl (C_alloc rfl (zer rfl) ?_); intro b0_1; refine On ?_; refine Wr ?_; refine Sm rfl ?_; refine S_c rfl rfl rfl (C_call (graph_s ‹_› ‹_›) rfl rfl ⟨_, _, rfl, rfl, rfl⟩ (cal rfl) ?_); rintro h0_2 _ l0_2 ⟨_, rfl, pg0_2, qg0_2, rfl, fg0_2⟩; replace hs := hs.up l0_2; refine Sm rfl ?_; refine S_q rfl rfl rfl (Q_extract rfl rfl rfl) ?_; refine S_q rfl rfl rfl (Q_extract rfl rfl rfl) ?_; refine S_c rfl rfl rfl (C_alloc rfl (zer rfl) ?_); intro b0_3; refine S_w0 rfl rfl (W_all rfl rfl rfl (ty rfl) u0 (by first | rfl | assumption) (by first | rfl | assumption) (by first | rfl | assumption | exact ones_sub ‹_› _ _) ?_); refine Sm rfl ?_; refine On ?_; refine WP_seq ?_; refine Wr ?_; refine Sm rfl ?_; refine Sc rfl rfl rfl rfl rfl rfl rfl ?_; refine On ?_; refine WP_cond rfl (fun c0_4 => ?_) (fun c0_4 => ?_) <;> (first | (simp [*] at c0_4; done) | (try simp at c0_4)); (focus (refine Wr ?_; refine Sm rfl ?_; refine S_w0 rfl rfl (W_one rfl rfl rfl (ty rfl) u1 rfl rfl rfl ?_); refine On ?_; refine WP_ret ?_; refine then_r ?_)); rotate_left 1; (focus (refine WP_skip ?_; refine then_n ?_; refine Wr ?_; refine Sm rfl ?_; refine S_c rfl rfl rfl (C_call (of_s ‹_›) rfl rfl ⟨_, _, rfl, rfl, rfl⟩ (cal rfl) ?_); rintro h0_5 _ l0_5 ⟨pf0_5, qf0_5, mb0_5, rfl, ff0_5⟩; replace fg0_2 := fg0_2.up l0_5; replace hs := hs.up l0_5; refine Sm rfl ?_; refine S_c rfl rfl rfl (C_call (roots_s ‹_› ‹_›) rfl rfl ⟨_, _, rfl, rfl, rfl⟩ (cal rfl) ?_); rintro h0_6 _ l0_6 ⟨p0_6, q0_6, rfl, f0_6⟩; replace ff0_5 := ff0_5.up l0_6; replace fg0_2 := fg0_2.up l0_6; replace hs := hs.up l0_6; refine S_c rfl rfl rfl (C_alloc rfl (zer rfl) ?_); intro b0_7; refine S_w0 rfl rfl (W_all rfl rfl rfl (ty rfl) u0 (by first | rfl | assumption) (by first | rfl | assumption) (by first | rfl | assumption | exact ones_sub ‹_› _ _) ?_); refine Sm rfl ?_; refine On ?_; refine Wr ?_; refine S_load rfl rfl rfl rfl rfl ?_; refine L_agg (Rd.own m1) (ty rfl) (by first | rfl | assumption) ?_; refine Sm rfl ?_; refine S_c rfl rfl rfl (C_callF (reach_s ⟨_, _, rfl, by assumption⟩ ‹_› (by omega) (by omega) ‹_›) rfl rfl ⟨_, _, rfl, ⟨_, _, rfl, rfl, rfl⟩, rfl⟩ (cal rfl) ?_); rintro h0_8 m0_8 _ l0_8 ⟨p0_8, q0_8, rfl, o0_8⟩; replace f0_6 := f0_6.up l0_8; replace ff0_5 := ff0_5.up l0_8; replace fg0_2 := fg0_2.up l0_8; replace hs := hs.up l0_8; refine Sm rfl ?_; refine On ?_; refine Wr ?_; refine S_q rfl rfl rfl (Q_makeFunc rfl rfl ⟨_, _, rfl, rfl, rfl⟩) ?_; refine S_c rfl rfl rfl (C_alloc rfl (zer rfl) ?_); intro b0_9; refine S_w0 rfl rfl (W_one rfl rfl rfl (ty rfl) u0 rfl rfl rfl ?_); refine On ?_; refine WP_seq ?_; refine Wr ?_; refine Sm rfl ?_; refine Sm rfl ?_; refine S_c rfl rfl rfl (C_buildSlice rfl (elm rfl) (zer rfl) rfl ⟨_, _, _, rfl, rfl, rfl, rfl, ⟨_, _, _, rfl, rfl, rfl, rfl, rfl, rfl⟩, rfl⟩ rfl rfl ?_); intro b0_10)); rotate_left 1))
  · refine nretP [_, _] (List.Sublist.refl _) (.inl rfl) rfl ⟨_, _, _, rfl, Loads_one (Rd.own m1) (ty rfl), rfl, rfl⟩ ?_
    simp only [resOf]; rw [safeR, if_neg c0_4]; rfl
  have hsafe : safeR vs = safe1 vs (graphR vs).1 (reachL (graphR vs).1 (rootsR vs)) (rootsR vs) := by rw [safeR, if_pos c0_4]
  have hlv : (reachL (graphR vs).1 (rootsR vs)).length ≤ 1000000 := Nat.le_trans (reachL_length _ _) hgl
  rw [hsafe]
  generalize hlive : reachL (graphR vs).1 (rootsR vs) = live at *
  generalize hroots : rootsR vs = roots at *
  generalize hgr : (graphR vs).1 = g at *
  (focus (refine OPS_keepM [] [_] _ rfl ?_; rintro h1_k l1_k k1_k; have a1_k := at_of_keep k1_k; clear k1_k; replace ff0_5 := ff0_5.up l1_k; replace hs := hs.up l1_k; replace o0_8 := o0_8.up l1_k; replace f0_6 := f0_6.up l1_k; replace fg0_2 := fg0_2.up l1_k))
  (focus (refine OPS_keepM [] [_] _ rfl ?_; rintro h2_k l2_k k2_k; have a2_k := at_of_keep k2_k; clear k2_k; replace a1_k := a1_k.up l2_k; replace ff0_5 := ff0_5.up l2_k; replace hs := hs.up l2_k; replace o0_8 := o0_8.up l2_k; replace f0_6 := f0_6.up l2_k; replace fg0_2 := fg0_2.up l2_k))
  refine OPS_keepM [] m0_8 _ rfl fun h4 hl4 hm4 => ?_
  have hL : SL h4 2 IDC (.slice p0_8 live.length q0_8) live := o0_8.sl hl4 IDC_mono hm4 (by omega)
  clear o0_8 hm4
  (replace a2_k := a2_k.up hl4; replace a1_k := a1_k.up hl4; replace ff0_5 := ff0_5.up hl4; replace hs := hs.up hl4; replace f0_6 := f0_6.up hl4; replace fg0_2 := fg0_2.up hl4)
  (focus (refine OPS_keepM [] [_] _ rfl ?_; rintro h4_k l4_k k4_k; have a4_k := at_of_keep k4_k; clear k4_k; replace hL := hL.up l4_k; replace a2_k := a2_k.up l4_k; replace a1_k := a1_k.up l4_k; replace ff0_5 := ff0_5.up l4_k; replace hs := hs.up l4_k; replace f0_6 := f0_6.up l4_k; replace fg0_2 := fg0_2.up l4_k))
  (focus (refine OPS_keepM [] [_] _ rfl ?_; rintro h5_k l5_k k5_k; have a5_k := at_of_keep k5_k; clear k5_k; replace a4_k := a4_k.up l5_k; replace hL := hL.up l5_k; replace a2_k := a2_k.up l5_k; replace a1_k := a1_k.up l5_k; replace ff0_5 := ff0_5.up l5_k; replace hs := hs.up l5_k; replace f0_6 := f0_6.up l5_k; replace fg0_2 := fg0_2.up l5_k))
  refine S_c rfl rfl rfl (C_callF (concat_s (ls := [live, roots]) (slb_of_at a1_k (Flat.append (Flat.one rfl rfl ⟨_, _, rfl, hL⟩) (Flat.one rfl rfl ⟨_, _, rfl, f0_6⟩)) (by simp)) (by simp; omega)) rfl rfl ⟨_, _, rfl, rfl, rfl⟩ (cal rfl) ?_)
  rintro _ M _ hl5 ⟨rfl, pa, qa, rfl, hO⟩
  have hcat : [live, roots].flatten = live ++ roots := by simp
  rw [hcat] at hO ⊢
  have hal : (live ++ roots).length ≤ 2000000 := by rw [List.length_append]; omega
  have hs1 : safe1 vs g live roots = if (live ++ roots).any (fun id => !thereB g id) then 6 else safe2 vs g live := by rw [safe1]
  rw [hs1]
  generalize live ++ roots = all at *
  (focus (refine S_q rfl rfl rfl (Q_len rfl rfl rfl rfl rfl rfl) ?_; refine Sm rfl ?_; refine On ?_; refine WP_block ?_))
  refine WP_keepM [] M _ rfl fun h6 hl6 hm6 => ?_
  have hA : SL h6 2 IDC (.slice pa all.length qa) all := hO.sl hl6 IDC_mono hm6 (by omega)
  clear hO hm6 hs1 hcat hsafe
  (replace a5_k := a5_k.up hl6; replace a4_k := a4_k.up hl6; replace hL := hL.up hl6; replace a2_k := a2_k.up hl6; replace a1_k := a1_k.up hl6; replace ff0_5 := ff0_5.up hl6; replace hs := hs.up hl6; replace f0_6 := f0_6.up hl6; replace fg0_2 := fg0_2.up hl6)
  clear a1_k
  have hfn := fun id : ID => there_s (id := id) a5_k ⟨_, _, rfl, fg0_2⟩
  have hcal : callOk Tryz.prog 63 = true := cal rfl
  (refine WP_loopC (α := Nat) [44, 43, 8, 7, 5, 3, 2, 0] (fun (k : Nat) => all.length - k) (fun (k : Nat) => [(45, .int .i64 (k : Int))]) (fun hh (k : Nat) => hh = h6 ∧ k ≤ all.length ∧ (all.drop k).any (fun id => !thereB g id) = all.any (fun id => !thereB g id)) 0 ⟨_, _, rfl, ⟨_, _, rfl, ⟨_, _, rfl, ⟨_, _, rfl, ⟨_, _, rfl, ⟨_, _, rfl, ⟨_, _, rfl, ⟨_, _, rfl, rfl, rfl⟩, rfl⟩, rfl⟩, rfl⟩, rfl⟩, rfl⟩, rfl⟩, rfl⟩ (by repeat' first | exact trivial | refine ⟨rfl, ?_⟩) ?_ ?_)
  · exact ⟨rfl, Nat.zero_le _, rfl⟩
  rintro h7 k _ ⟨rfl, hk, ht⟩
  by_cases hlt : k < all.length
  · obtain ⟨⟨i1, i2⟩, ei⟩ := get_of hlt
    have hod := any_drop (p := fun id => !thereB g id) ei
    rw [ht] at hod
    (focus (refine Wr ?_; refine Sc rfl rfl rfl rfl rfl rfl rfl ?_; refine On ?_; refine WP_seq ?_; refine WP_cond rfl (fun c9_1 => ?_) (fun c9_1 => ?_) <;> (first | (simp [*] at c9_1; done) | (try simp at c9_1)); refine WP_skip ?_; refine then_n ?_; refine WP_seq ?_; refine WP_block ?_; refine Wr ?_; refine S_q rfl rfl rfl (Q_indexS ‹_› ‹_› rfl rfl rfl (elm rfl) rfl) ?_; refine S_load rfl rfl rfl rfl rfl ?_; refine L_elA ‹_› ‹_› (ty rfl) ?_; rintro _ _ _ rfl; refine S_c rfl rfl rfl (C_alloc rfl (zer rfl) ?_); intro b9_3; refine S_w0 rfl rfl (W_all rfl rfl rfl (ty rfl) u0 (by first | rfl | assumption) (by first | rfl | assumption) (by first | rfl | assumption | exact ones_sub ‹_› _ _) ?_); refine On ?_; refine Wr ?_; refine S_load rfl rfl rfl rfl rfl ?_; refine L_one (Rd.pers ‹_›) (ty rfl) ?_; refine S_load rfl rfl rfl rfl rfl ?_; refine L_agg (Rd.own m0) (ty rfl) (by first | rfl | assumption) ?_; refine S_c rfl rfl rfl (C_callCv (hfn _) rfl rfl rfl ⟨_, _, rfl, rfl, rfl⟩ hcal ?_); refine S_q rfl rfl rfl (Q_not rfl rfl) ?_; refine On ?_; refine WP_cond rfl (fun c9_4 => ?_) (fun c9_4 => ?_) <;> (first | (simp [*] at c9_4; done) | (try simp at c9_4)); (focus (refine Wr ?_; refine S_w0 rfl rfl (W_one rfl rfl rfl (ty rfl) u1 rfl rfl rfl ?_); refine On ?_; refine WP_ret ?_; refine block_r ?_; refine then_r ?_; refine roundF_r ?_; refine block_r ?_; refine then_r ?_)); rotate_left 1; (focus (refine WP_skip ?_; refine block_n ?_; refine then_n ?_; refine R_region ?_; refine S_q rfl rfl rfl (Q_add rfl rfl rfl (by omega)) ?_; refine Sm rfl ?_; refine OPS_nil ?_)); rotate_left 1))
    · refine nretP [_, _] (List.Sublist.refl _) (.inl rfl) rfl ⟨_, _, _, rfl, Loads_one (Rd.own m1) (ty rfl), rfl, rfl⟩ ?_
      simp only [resOf]; rw [hod, c9_4]; rfl
    · refine roundF_n (k + 1) (by omega) ⟨rfl, by omega, ?_⟩ (by repeat' first | exact sR _ | exact sA _ _ | exact sN _ | apply s2 | apply s1) (by repeat' first | exact trivial | refine ⟨rfl, ?_⟩)
      rw [hod, c9_4]; rfl
  have hge : k = all.length := by omega
  subst hge
  rw [List.drop_length] at ht
  rw [← ht, List.any_nil]
  clear hfn hcal hA ht
  have hs2 : safe2 vs g live = if live.any (fun id => badNode g ((findG g id).getD zeroN)) then 6 else safe3 vs live := by rw [safe2]
  rw [if_neg (by simp), hs2]
  clear hs2
  (focus (refine Wr ?_; refine Sc rfl rfl rfl rfl rfl rfl rfl ?_; refine On ?_; refine WP_seq ?_; refine WP_cond rfl (fun c10_1 => ?_) (fun c10_1 => ?_) <;> (first | (simp [*] at c10_1; done) | (try simp at c10_1)); refine WP_exit ?_; refine then_e ?_; refine roundF_e ?_; refine block_e ?_; refine then_n ?_; refine WP_seq ?_; refine Wr ?_; refine Sm rfl ?_; refine S_q rfl rfl rfl (Q_len rfl rfl rfl rfl rfl rfl) ?_; refine Sm rfl ?_; refine On ?_; refine WP_block ?_))
  (refine WP_loopC (α := Nat) [55, 54, 8, 7, 5, 3, 2, 0] (fun (k : Nat) => live.length - k) (fun (k : Nat) => [(56, .int .i64 (k : Int))]) (fun hh (k : Nat) => le h7 hh ∧ k ≤ live.length ∧ (live.drop k).any (fun id => badNode g ((findG g id).getD zeroN)) = live.any (fun id => badNode g ((findG g id).getD zeroN))) 0 ⟨_, _, rfl, ⟨_, _, rfl, ⟨_, _, rfl, ⟨_, _, rfl, ⟨_, _, rfl, ⟨_, _, rfl, ⟨_, _, rfl, ⟨_, _, rfl, rfl, rfl⟩, rfl⟩, rfl⟩, rfl⟩, rfl⟩, rfl⟩, rfl⟩, rfl⟩ (by repeat' first | exact trivial | refine ⟨rfl, ?_⟩) ?_ ?_)
  · exact ⟨le_refl _, Nat.zero_le _, rfl⟩
  rintro h8 k _ ⟨hl7, hk, ht⟩
  (replace a5_k := a5_k.up hl7; replace a4_k := a4_k.up hl7; replace hL := hL.up hl7; replace a2_k := a2_k.up hl7; replace ff0_5 := ff0_5.up hl7; replace hs := hs.up hl7; replace f0_6 := f0_6.up hl7; replace fg0_2 := fg0_2.up hl7)
  by_cases hlt : k < live.length
  · obtain ⟨⟨i1, i2⟩, ei⟩ := get_of hlt
    have hod := any_drop (p := fun id => badNode g ((findG g id).getD zeroN)) ei
    rw [ht] at hod
    (focus (refine Wr ?_; refine Sc rfl rfl rfl rfl rfl rfl rfl ?_; refine On ?_; refine WP_seq ?_; refine WP_cond rfl (fun c13_1 => ?_) (fun c13_1 => ?_) <;> (first | (simp [*] at c13_1; done) | (try simp at c13_1)); refine WP_skip ?_; refine then_n ?_; refine WP_seq ?_; refine WP_block ?_; refine Wr ?_; refine S_q rfl rfl rfl (Q_indexS ‹_› ‹_› rfl rfl rfl (elm rfl) rfl) ?_; refine S_load rfl rfl rfl rfl rfl ?_; refine L_elA ‹_› ‹_› (ty rfl) ?_; rintro _ _ _ rfl; refine S_c rfl rfl rfl (C_alloc rfl (zer rfl) ?_); intro b13_3; refine S_w0 rfl rfl (W_all rfl rfl rfl (ty rfl) u0 (by first | rfl | assumption) (by first | rfl | assumption) (by first | rfl | assumption | exact ones_sub ‹_› _ _) ?_); refine On ?_; refine Wr ?_; refine S_load rfl rfl rfl rfl rfl ?_; refine L_agg (Rd.pers ‹_›) (ty rfl) (by first | rfl | assumption) ?_; refine S_load rfl rfl rfl rfl rfl ?_; refine L_agg (Rd.own m0) (ty rfl) (by first | rfl | assumption) ?_; refine S_c rfl rfl rfl (C_call (find_s ⟨_, _, rfl, by assumption⟩) rfl rfl ⟨_, _, rfl, ⟨_, _, rfl, rfl, rfl⟩, rfl⟩ (cal rfl) ?_); rintro h13_4 _ l13_4 ⟨vf13_4, rfl, pn13_4, qn13_4, rfl, fn13_4⟩; replace a5_k := a5_k.up l13_4; replace a4_k := a4_k.up l13_4; replace hL := hL.up l13_4; replace a2_k := a2_k.up l13_4; replace ff0_5 := ff0_5.up l13_4; replace hs := hs.up l13_4; replace f0_6 := f0_6.up l13_4; replace fg0_2 := fg0_2.up l13_4; refine Sm rfl ?_; refine S_q rfl rfl rfl (Q_extract rfl rfl rfl) ?_; refine S_q rfl rfl rfl (Q_extract rfl rfl rfl) ?_; refine S_c rfl rfl rfl (C_alloc rfl (zer rfl) ?_); intro b13_5; refine S_w0 rfl rfl (W_all rfl rfl rfl (ty rfl) u0 (by first | rfl | assumption) (by first | rfl | assumption) (by first | rfl | assumption | exact ones_sub ‹_› _ _) ?_); refine Sm rfl ?_; refine On ?_; refine Wr ?_; refine S_q rfl rfl rfl (Q_makeFunc rfl rfl ⟨_, _, rfl, rfl, rfl⟩) ?_; refine Sm rfl ?_; refine On ?_; refine Wr ?_; refine Sf rfl rfl rfl rfl rfl (fld rfl rfl) ?_; refine S_load rfl rfl rfl rfl rfl ?_; refine L_fld (Rd.own m0) (ty rfl) rfl ?_; refine Sc rfl rfl rfl rfl rfl rfl rfl ?_; refine Sm rfl ?_; refine S_gsplit rfl rfl rfl rfl (fun c13_6 => ?_) (fun c13_6 => ?_) <;> (first | (simp [*] at c13_6; done) | (try simp at c13_6)); (focus (refine S_gq rfl rfl rfl rfl rfl rfl (Q_fieldAddr rfl rfl (fld rfl rfl)) ?_; refine S_gload rfl rfl rfl rfl rfl rfl rfl rfl ?_; refine L_fld (Rd.own m0) (ty rfl) rfl ?_; refine S_gq rfl rfl rfl rfl rfl rfl (Q_move rfl rfl) ?_)); rotate_left 1; (focus (refine Sn rfl ?_; refine Sn rfl ?_; refine Sn rfl ?_; refine Sn rfl ?_; refine S_q rfl rfl rfl (Q_pick_f rfl rfl rfl) ?_; refine On ?_; refine cond_f rfl ?_; refine WP_skip ?_; refine block_n ?_; refine then_n ?_; refine R_region ?_; refine S_q rfl rfl rfl (Q_add rfl rfl rfl (by omega)) ?_; refine Sm rfl ?_; refine OPS_nil ?_)); rotate_left 1))
    · refine S_gc rfl rfl rfl rfl rfl rfl (C_callv (hasVal_s (cap := [ptr b0_9 0]) (p := oddB g) fn13_4 (cal rfl) (fun v vs _ _ e => by cases e; exact odd_s a2_k a5_k ⟨_, _, rfl, fg0_2⟩)) rfl rfl ⟨_, _, rfl, ⟨_, _, rfl, rfl, rfl⟩, rfl⟩ (cal rfl) ?_)
      rw [badNode_any c13_6] at hod
      generalize ((findG g (i1, i2)).getD zeroN).fields.any (oddB g) = bb at *
      (focus (refine S_q rfl rfl rfl (Q_pick_t rfl rfl rfl) ?_; refine On ?_; refine WP_cond rfl (fun c14_1 => ?_) (fun c14_1 => ?_) <;> (first | (simp [*] at c14_1; done) | (try simp at c14_1)); (focus (refine Wr ?_; refine S_w0 rfl rfl (W_one rfl rfl rfl (ty rfl) u2 rfl rfl rfl ?_); refine On ?_; refine WP_ret ?_; refine block_r ?_; refine then_r ?_; refine roundF_r ?_; refine block_r ?_; refine then_r ?_)); rotate_left 1; (focus (refine WP_skip ?_; refine block_n ?_; refine then_n ?_; refine R_region ?_; refine S_q rfl rfl rfl (Q_add rfl rfl rfl (by omega)) ?_; refine Sm rfl ?_; refine OPS_nil ?_)); rotate_left 1))
      · refine nretP [_, _, _] (List.Sublist.refl _) (.inl rfl) rfl ⟨_, _, _, rfl, Loads_one (Rd.own m2) (ty rfl), rfl, rfl⟩ ?_
        simp only [resOf]; rw [hod, c14_1]; rfl
      · refine roundF_n (k + 1) (by omega) ⟨le_trans hl7 l13_4, by omega, ?_⟩ (by repeat' first | exact sR _ | exact sA _ _ | exact sN _ | apply s2 | apply s1) (by repeat' first | exact trivial | refine ⟨rfl, ?_⟩)
        rw [hod, c14_1]; rfl
    · refine roundF_n (k + 1) (by omega) ⟨le_trans hl7 l13_4, by omega, ?_⟩ (by repeat' first | exact sR _ | exact sA _ _ | exact sN _ | apply s2 | apply s1) (by repeat' first | exact trivial | refine ⟨rfl, ?_⟩)
      rw [hod, badNode_weak c13_6]; rfl
  have hge : k = live.length := by omega
  subst hge
  rw [List.drop_length] at ht
  rw [← ht, List.any_nil]
  clear ht
  have hs3 : safe3 vs live = if (flightsOf vs).any (lostF vs) then 6 else safe4 vs live := by rw [safe3]
  rw [if_neg (by simp), hs3]
  clear hs3
  (focus (refine Wr ?_; refine Sc rfl rfl rfl rfl rfl rfl rfl ?_; refine On ?_; refine WP_seq ?_; refine WP_cond rfl (fun c15_1 => ?_) (fun c15_1 => ?_) <;> (first | (simp [*] at c15_1; done) | (try simp at c15_1)); refine WP_exit ?_; refine then_e ?_; refine roundF_e ?_; refine block_e ?_; refine then_n ?_; refine WP_seq ?_; refine Wr ?_; refine S_load rfl rfl rfl rfl rfl ?_; refine L_agg (Rd.pers ‹_›) (ty rfl) (by first | rfl | assumption) ?_; refine S_c rfl rfl rfl (C_call (flights_s ‹_›) rfl rfl ⟨_, _, rfl, rfl, rfl⟩ (cal rfl) ?_); rintro h15_2 _ l15_2 ⟨bi15_2, rfl, it15_2⟩; replace a5_k := a5_k.up l15_2; replace a4_k := a4_k.up l15_2; replace hL := hL.up l15_2; replace a2_k := a2_k.up l15_2; replace ff0_5 := ff0_5.up l15_2; replace hs := hs.up l15_2; replace f0_6 := f0_6.up l15_2; replace fg0_2 := fg0_2.up l15_2; refine On ?_; refine WP_block ?_))
  refine WP_rangeS [] [] (fun _ : Unit => [(b0_1, cells [.int .i64 0] 28)]) (fun pre hh _ => le h15_2 hh ∧ pre.any (lostF vs) = false)
    (fun e hh L => e = .ret ∧ List.Sublist [(b0_1, cells [.int .i64 6] 28)] L ∧ (flightsOf vs).any (lostF vs) = true) () it15_2 rfl Tryz.func77 (by decide) rfl (by rintro _ _ _ ⟨_, _, rfl, _⟩; rfl) rfl rfl ⟨le_refl _, rfl⟩ ?_ ?_ ?_
  · rintro l pre ⟨v, x⟩ _ h2 _ hl1 ⟨hl2, hpre⟩ hp ⟨us, ws, rfl, hu1, hu2, hu3, hw1, hw2, hw3⟩
    simp only at hu3 hw3
    have hsn : (pre ++ [(v, x)]).any (lostF vs) = (pre.any (lostF vs) || lostF vs (v, x)) := by simp
    have hin : (v, x) ∈ flightsOf vs := hp.subset (by simp)
    (replace it15_2 := it15_2.up hl1; replace a5_k := a5_k.up hl1; replace a4_k := a4_k.up hl1; replace hL := hL.up hl1; replace a2_k := a2_k.up hl1; replace ff0_5 := ff0_5.up hl1; replace hs := hs.up hl1; replace f0_6 := f0_6.up hl1; replace fg0_2 := fg0_2.up hl1)
    obtain ⟨hi, xa, po, qo, qs, qt, pc, qc, pn, qn, pm, qm, xw, xv, pf, qf, pr, qr, xe, xf, rfl, -⟩ := hu3
    obtain ⟨ya, yb, yc, yd, ye, pa, qa, pg, qg, ph, qh, yw, y1, y2, y3, y4, y5, y6, y7, y8, y9, y10, y11, y12, y13, y14, y15, rfl, ha, hfs, hm⟩ := hw3
    dsimp only [parFr]
    (focus (refine Wr ?_; refine S_c rfl rfl rfl (C_alloc rfl (zer rfl) ?_); intro b17_1; refine S_w0 rfl rfl (W_all rfl rfl rfl (ty rfl) u0 (by first | rfl | assumption) (by first | rfl | assumption) (by first | rfl | assumption | exact ones_sub ‹_› _ _) ?_); refine On ?_; refine R_region ?_; refine S_c rfl rfl rfl (C_alloc rfl (zer rfl) ?_); intro b17_2; refine S_w0 rfl rfl (W_all rfl rfl rfl (ty rfl) u0 (by first | rfl | assumption) (by first | rfl | assumption) (by first | rfl | assumption | exact ones_sub ‹_› _ _) ?_); refine On ?_))
    refine ⟨rfl, ?_⟩
    (focus (refine WP_block ?_; refine Wr ?_; refine Sf rfl rfl rfl rfl rfl (fld rfl rfl) ?_; refine Sf rfl rfl rfl rfl rfl (fld rfl rfl) ?_; refine S_load rfl rfl rfl rfl rfl ?_; refine L_fld2 (Rd.own m0) ?_; refine LV_1 (ty rfl) rfl ?_; refine Sc rfl rfl rfl rfl rfl rfl rfl ?_; refine Sm rfl ?_; refine S_gsplit rfl rfl rfl rfl (fun c18_1 => ?_) (fun c18_1 => ?_) <;> (first | (simp [*] at c18_1; done) | (try simp at c18_1)); (focus (refine S_gload rfl rfl rfl rfl rfl rfl rfl rfl ?_; refine L_agg (Rd.pers ‹_›) (ty rfl) (by first | rfl | assumption) ?_; refine S_gq rfl rfl rfl rfl rfl rfl (Q_fieldAddr rfl rfl (fld rfl rfl)) ?_; refine S_gload rfl rfl rfl rfl rfl rfl rfl rfl ?_; refine L_fld (Rd.own m1) (ty rfl) rfl ?_; refine S_gq rfl rfl rfl rfl rfl rfl (Q_fieldAddr rfl rfl (fld rfl rfl)) ?_; refine S_gload rfl rfl rfl rfl rfl rfl rfl rfl ?_; refine L_fld (Rd.own m0) (ty rfl) rfl ?_; refine S_gq rfl rfl rfl rfl rfl rfl (Q_fieldAddr rfl rfl (fld rfl rfl)) ?_; refine S_gq rfl rfl rfl rfl rfl rfl (Q_fieldAddr rfl rfl (fld rfl rfl)) ?_; refine S_gload rfl rfl rfl rfl rfl rfl rfl rfl ?_; refine L_fld2 (Rd.own m0) ?_; refine LV_1 (ty rfl) rfl ?_; refine S_gc rfl rfl rfl rfl rfl rfl (C_callv (numbered_s ‹_›) rfl rfl ⟨_, _, rfl, ⟨_, _, rfl, ⟨_, _, rfl, ⟨_, _, rfl, rfl, rfl⟩, rfl⟩, rfl⟩, rfl⟩ (cal rfl) ?_); refine S_gq rfl rfl rfl rfl rfl rfl (Q_build rfl (by decide +kernel) (zer rfl) rfl rfl) ?_; refine S_gq rfl rfl rfl rfl rfl rfl (Q_eqI eqID rfl rfl rfl rfl rfl) ?_; refine S_q rfl rfl rfl (Q_pick_t rfl rfl rfl) ?_; refine On ?_; refine WP_cond rfl (fun c18_2 => ?_) (fun c18_2 => ?_) <;> (first | (simp [*] at c18_2; done) | (try simp at c18_2)); (focus (refine Wr ?_; refine S_w0 rfl rfl (W_one rfl rfl rfl (ty rfl) u2 rfl rfl rfl ?_); refine On ?_; refine WP_ret ?_; refine block_r ?_)); rotate_left 1; (focus (refine WP_skip ?_; refine block_n ?_)); rotate_left 1)); rotate_left 2; (focus (refine Sn rfl ?_; refine Sn rfl ?_; refine Sn rfl ?_; refine Sn rfl ?_; refine Sn rfl ?_; refine Sn rfl ?_; refine Sn rfl ?_; refine Sn rfl ?_; refine Sn rfl ?_; refine Sn rfl ?_; refine Sn rfl ?_; refine S_q rfl rfl rfl (Q_pick_f rfl rfl rfl) ?_; refine On ?_; refine cond_f rfl ?_; refine WP_skip ?_; refine block_n ?_)); rotate_left 1))
    · refine bodyS_r ⟨rfl, (by repeat' first | exact sR _ | exact sA _ _ | exact sN _ | apply s2 | apply s1), List.any_eq_true.2 ⟨_, hin, ?_⟩⟩
      rw [lostF_zero c18_1]
      exact decide_eq_true (Prod.ext c18_2.1 c18_2.2)
    · refine bodyS_n () ⟨hl2, ?_⟩ (by repeat' first | exact sR _ | exact sA _ _ | exact sN _ | apply s2 | apply s1)
      rw [hsn, hpre, lostF_zero c18_1]
      exact decide_eq_false fun e => c18_2 (congrArg Prod.fst e) (congrArg Prod.snd e)
    · refine bodyS_n () ⟨hl2, ?_⟩ (by repeat' first | exact sR _ | exact sA _ _ | exact sN _ | apply s2 | apply s1)
      rw [hsn, hpre, lostF_other c18_1]; rfl
  · rintro d h2 _ hl1 ⟨hl2, hpre⟩
    (replace it15_2 := it15_2.up hl1; replace a5_k := a5_k.up hl1; replace a4_k := a4_k.up hl1; replace hL := hL.up hl1; replace a2_k := a2_k.up hl1; replace ff0_5 := ff0_5.up hl1; replace hs := hs.up hl1; replace f0_6 := f0_6.up hl1; replace fg0_2 := fg0_2.up hl1)
    rw [if_neg (by rw [hpre]; simp)]
    have hs4 : safe4 vs live = if vs.any (fun v => v.stubs.any (badStub vs live v)) then 11 else 0 := by rw [safe4]
    rw [hs4]
    clear hs4
    (focus (refine block_n ?_; refine then_n ?_; refine WP_seq ?_; refine Wr ?_; refine Sm rfl ?_; refine S_q rfl rfl rfl (Q_len rfl rfl rfl rfl rfl rfl) ?_; refine Sm rfl ?_; refine On ?_; refine WP_block ?_))
    (refine WP_loopC (α := Nat) [99, 98, 7, 2, 0] (fun (k : Nat) => vs.length - k) (fun (k : Nat) => [(100, .int .i64 (k : Int))]) (fun hh (k : Nat) => le h2 hh ∧ k ≤ vs.length ∧ (vs.drop k).any (fun v => v.stubs.any (badStub vs live v)) = vs.any (fun v => v.stubs.any (badStub vs live v))) 0 ⟨_, _, rfl, ⟨_, _, rfl, ⟨_, _, rfl, ⟨_, _, rfl, ⟨_, _, rfl, rfl, rfl⟩, rfl⟩, rfl⟩, rfl⟩, rfl⟩ (by repeat' first | exact trivial | refine ⟨rfl, ?_⟩) ?_ ?_)
    · exact ⟨le_refl _, Nat.zero_le _, rfl⟩
    rintro h3 k _ ⟨hl3, hk, ht⟩
    (replace it15_2 := it15_2.up hl3; replace a5_k := a5_k.up hl3; replace a4_k := a4_k.up hl3; replace hL := hL.up hl3; replace a2_k := a2_k.up hl3; replace ff0_5 := ff0_5.up hl3; replace hs := hs.up hl3; replace f0_6 := f0_6.up hl3; replace fg0_2 := fg0_2.up hl3)
    by_cases hlt : k < vs.length
    · obtain ⟨v, ev⟩ := get_of hlt
      have hod := any_drop (p := fun v => v.stubs.any (badStub vs live v)) ev
      rw [ht] at hod
      have hst := sm.stubs v (List.mem_of_getElem? ev)
      (focus (refine Wr ?_; refine Sc rfl rfl rfl rfl rfl rfl rfl ?_; refine On ?_; refine WP_seq ?_; refine WP_cond rfl (fun c23_1 => ?_) (fun c23_1 => ?_) <;> (first | (simp [*] at c23_1; done) | (try simp at c23_1)); refine WP_skip ?_; refine then_n ?_; refine WP_seq ?_; refine WP_block ?_; refine Wr ?_; refine S_q rfl rfl rfl (Q_indexS ‹_› ‹_› rfl rfl rfl (elm rfl) rfl) ?_; refine S_load rfl rfl rfl rfl rfl ?_; refine L_elA ‹_› ‹_› (ty rfl) ?_; rintro _ _ _ ⟨xi23_2, xa23_2, po23_2, qo23_2, ps23_2, qs23_2, pc23_2, qc23_2, pn23_2, qn23_2, pm23_2, qm23_2, xw23_2, xv23_2, pf23_2, qf23_2, pr23_2, qr23_2, xe23_2, xf23_2, rfl, vo23_2, vs23_2, vc23_2, vn23_2, vm23_2, vf23_2, vr23_2⟩; refine S_c rfl rfl rfl (C_alloc rfl (zer rfl) ?_); intro b23_3; refine S_w0 rfl rfl (W_all rfl rfl rfl (ty rfl) u0 (by first | rfl | assumption) (by first | rfl | assumption) (by first | rfl | assumption | exact ones_sub ‹_› _ _) ?_); refine On ?_; refine Wr ?_; refine Sf rfl rfl rfl rfl rfl (fld rfl rfl) ?_; refine S_load rfl rfl rfl rfl rfl ?_; refine L_fld (Rd.own m0) (ty rfl) rfl ?_; refine S_q rfl rfl rfl (Q_len rfl rfl rfl rfl rfl rfl) ?_; refine Sm rfl ?_; refine On ?_; refine WP_block ?_))
      (refine WP_loopC (α := Nat) [106, 105, 19, 100, 99, 98, 7, 2, 0] (fun (j : Nat) => v.stubs.length - j) (fun (j : Nat) => [(107, .int .i64 (j : Int))]) (fun hh (j : Nat) => le h3 hh ∧ j ≤ v.stubs.length ∧ (v.stubs.drop j).any (badStub vs live v) = v.stubs.any (badStub vs live v)) 0 ⟨_, _, rfl, ⟨_, _, rfl, ⟨_, _, rfl, ⟨_, _, rfl, ⟨_, _, rfl, ⟨_, _, rfl, ⟨_, _, rfl, ⟨_, _, rfl, ⟨_, _, rfl, rfl, rfl⟩, rfl⟩, rfl⟩, rfl⟩, rfl⟩, rfl⟩, rfl⟩, rfl⟩, rfl⟩ (by repeat' first | exact trivial | refine ⟨rfl, ?_⟩) ?_ ?_)
      · exact ⟨le_refl _, Nat.zero_le _, rfl⟩
      rintro h4 j _ ⟨hl4, hj, ht2⟩
      (replace it15_2 := it15_2.up hl4; replace a5_k := a5_k.up hl4; replace a4_k := a4_k.up hl4; replace hL := hL.up hl4; replace a2_k := a2_k.up hl4; replace ff0_5 := ff0_5.up hl4; replace hs := hs.up hl4; replace f0_6 := f0_6.up hl4; replace fg0_2 := fg0_2.up hl4; replace vo23_2 := vo23_2.up hl4; replace vs23_2 := vs23_2.up hl4; replace vc23_2 := vc23_2.up hl4; replace vn23_2 := vn23_2.up hl4; replace vm23_2 := vm23_2.up hl4; replace vf23_2 := vf23_2.up hl4; replace vr23_2 := vr23_2.up hl4)
      by_cases hlt2 : j < v.stubs.length
      · obtain ⟨x, ex⟩ := get_of hlt2
        have hod2 := any_drop (p := badStub vs live v) ex
        rw [ht2] at hod2
        have hbd := badStub_def vs live v x
        (focus (refine Wr ?_; refine Sc rfl rfl rfl rfl rfl rfl rfl ?_; refine On ?_; refine WP_seq ?_; refine WP_cond rfl (fun c26_1 => ?_) (fun c26_1 => ?_) <;> (first | (simp [*] at c26_1; done) | (try simp at c26_1)); refine WP_skip ?_; refine then_n ?_; refine WP_seq ?_; refine WP_block ?_; refine Wr ?_; refine S_q rfl rfl rfl (Q_indexS ‹_› ‹_› rfl rfl rfl (elm rfl) rfl) ?_; refine S_load rfl rfl rfl rfl rfl ?_; refine L_elA ‹_› ‹_› (ty rfl) ?_; rintro _ _ _ ⟨xa26_2, xb26_2, xc26_2, xd26_2, xe26_2, xf26_2, rfl⟩; refine S_c rfl rfl rfl (C_alloc rfl (zer rfl) ?_); intro b26_3; refine S_w0 rfl rfl (W_all rfl rfl rfl (ty rfl) u0 (by first | rfl | assumption) (by first | rfl | assumption) (by first | rfl | assumption | exact ones_sub ‹_› _ _) ?_); refine On ?_; refine WP_seq ?_; refine Wr ?_; refine Sf rfl rfl rfl rfl rfl (fld rfl rfl) ?_; refine S_load rfl rfl rfl rfl rfl ?_; refine L_fld (Rd.own m0) (ty rfl) rfl ?_; refine Sm rfl ?_; refine S_gsplit rfl rfl rfl rfl (fun c26_4 => ?_) (fun c26_4 => ?_) <;> (first | (simp [*] at c26_4; done) | (try simp at c26_4)); (focus (refine Sn rfl ?_; refine Sn rfl ?_; refine S_q rfl rfl rfl (Q_pick_t rfl rfl rfl) ?_; refine Sm rfl ?_; refine Sn rfl ?_; refine Sn rfl ?_; refine Sn rfl ?_; refine Sn rfl ?_; refine Sn rfl ?_; refine S_q rfl rfl rfl (Q_pick_t rfl rfl rfl) ?_; refine On ?_; refine cond_t rfl ?_; refine WP_exit ?_; refine then_e ?_; refine block_e ?_; refine then_n ?_; refine R_region ?_; refine S_q rfl rfl rfl (Q_add rfl rfl rfl (by omega)) ?_; refine Sm rfl ?_; refine OPS_nil ?_)); rotate_left 1; (focus (refine S_gq rfl rfl rfl rfl rfl rfl (Q_fieldAddr rfl rfl (fld rfl rfl)) ?_; refine S_gload rfl rfl rfl rfl rfl rfl rfl rfl ?_; refine L_fld (Rd.own m0) (ty rfl) rfl ?_; refine S_q rfl rfl rfl (Q_pick_f rfl rfl rfl) ?_; refine Sm rfl ?_; refine S_gsplit rfl rfl rfl rfl (fun c26_5 => ?_) (fun c26_5 => ?_) <;> (first | (simp [*] at c26_5; done) | (try simp at c26_5)); (focus (refine Sn rfl ?_; refine Sn rfl ?_; refine Sn rfl ?_; refine Sn rfl ?_; refine Sn rfl ?_; refine S_q rfl rfl rfl (Q_pick_t rfl rfl rfl) ?_; refine On ?_; refine cond_t rfl ?_; refine WP_exit ?_; refine then_e ?_; refine block_e ?_; refine then_n ?_; refine R_region ?_; refine S_q rfl rfl rfl (Q_add rfl rfl rfl (by omega)) ?_; refine Sm rfl ?_; refine OPS_nil ?_)); rotate_left 1; (focus (refine S_gq rfl rfl rfl rfl rfl rfl (Q_move rfl rfl) ?_; refine S_gq rfl rfl rfl rfl rfl rfl (Q_fieldAddr rfl rfl (fld rfl rfl)) ?_; refine S_gload rfl rfl rfl rfl rfl rfl rfl rfl ?_; refine L_sub (Rd.own m0) (ty rfl) rfl ?_; refine S_gc rfl rfl rfl rfl rfl rfl (C_callv (has_s (x := (_, _)) ‹_›) rfl rfl ⟨_, _, rfl, ⟨_, _, rfl, rfl, rfl⟩, rfl⟩ (cal rfl) ?_); refine S_gq rfl rfl rfl rfl rfl rfl (Q_not rfl rfl) ?_; refine S_q rfl rfl rfl (Q_pick_f rfl rfl rfl) ?_; refine On ?_; refine WP_cond rfl (fun c26_6 => ?_) (fun c26_6 => ?_) <;> (first | (simp [*] at c26_6; done) | (try simp at c26_6)); (focus (refine WP_exit ?_; refine then_e ?_; refine block_e ?_; refine then_n ?_; refine R_region ?_; refine S_q rfl rfl rfl (Q_add rfl rfl rfl (by omega)) ?_; refine Sm rfl ?_; refine OPS_nil ?_)); rotate_left 1; (focus (refine WP_skip ?_; refine then_n ?_; refine Wr ?_; refine Sm rfl ?_; refine Sf rfl rfl rfl rfl rfl (fld rfl rfl) ?_; refine S_load rfl rfl rfl rfl rfl ?_; refine L_fld (Rd.own m1) (ty rfl) rfl ?_; refine Sf rfl rfl rfl rfl rfl (fld rfl rfl) ?_; refine S_load rfl rfl rfl rfl rfl ?_; refine L_sub (Rd.own m0) (ty rfl) rfl ?_; refine S_c rfl rfl rfl (C_call (follow_s ‹_› (by omega)) rfl rfl ⟨_, _, rfl, ⟨_, _, rfl, ⟨_, _, rfl, rfl, rfl⟩, rfl⟩, rfl⟩ (cal rfl) ?_); rintro h26_7 _ l26_7 ⟨p26_7, q26_7, rfl, f26_7⟩; replace it15_2 := it15_2.up l26_7; replace a5_k := a5_k.up l26_7; replace a4_k := a4_k.up l26_7; replace hL := hL.up l26_7; replace a2_k := a2_k.up l26_7; replace ff0_5 := ff0_5.up l26_7; replace hs := hs.up l26_7; replace f0_6 := f0_6.up l26_7; replace fg0_2 := fg0_2.up l26_7; replace vo23_2 := vo23_2.up l26_7; replace vs23_2 := vs23_2.up l26_7; replace vc23_2 := vc23_2.up l26_7; replace vn23_2 := vn23_2.up l26_7; replace vm23_2 := vm23_2.up l26_7; replace vf23_2 := vf23_2.up l26_7; replace vr23_2 := vr23_2.up l26_7; refine Sm rfl ?_; refine S_q rfl rfl rfl (Q_extract rfl rfl rfl) ?_; refine S_q rfl rfl rfl (Q_extract rfl rfl rfl) ?_; refine Sm rfl ?_; refine Sm rfl ?_; refine On ?_; refine Wr ?_; refine Sm rfl ?_; refine Sc rfl rfl rfl rfl rfl rfl rfl ?_; refine On ?_; refine WP_cond rfl (fun c26_8 => ?_) (fun c26_8 => ?_) <;> (first | (simp [*] at c26_8; done) | (try simp at c26_8)); (focus (refine Wr ?_; refine S_w0 rfl rfl (W_one rfl rfl rfl (ty rfl) u2 rfl rfl rfl ?_); refine On ?_; refine WP_ret ?_; refine block_r ?_; refine then_r ?_; refine roundF_r ?_; refine block_r ?_; refine block_r ?_; refine then_r ?_; refine roundF_r ?_; refine block_r ?_; refine then_r ?_)); rotate_left 1; (focus (refine WP_skip ?_; refine block_n ?_; refine then_n ?_; refine R_region ?_; refine S_q rfl rfl rfl (Q_add rfl rfl rfl (by omega)) ?_; refine Sm rfl ?_; refine OPS_nil ?_)); rotate_left 1)); rotate_left 2)); rotate_left 3)); rotate_left 4))
        · rw [c26_4] at hbd
          refine roundF_n (j + 1) (by omega) ⟨hl4, by omega, ?_⟩ (by repeat' first | exact sR _ | exact sA _ _ | exact sN _ | apply s2 | apply s1) (by repeat' first | exact trivial | refine ⟨rfl, ?_⟩)
          rw [hod2, hbd]; rfl
        · rw [c26_4, c26_5] at hbd
          refine roundF_n (j + 1) (by omega) ⟨hl4, by omega, ?_⟩ (by repeat' first | exact sR _ | exact sA _ _ | exact sN _ | apply s2 | apply s1) (by repeat' first | exact trivial | refine ⟨rfl, ?_⟩)
          rw [hod2, hbd]; rfl
        · rw [c26_4, c26_5, decide_eq_false (p := x.id ∈ live) c26_6] at hbd
          refine roundF_n (j + 1) (by omega) ⟨hl4, by omega, ?_⟩ (by repeat' first | exact sR _ | exact sA _ _ | exact sN _ | apply s2 | apply s1) (by repeat' first | exact trivial | refine ⟨rfl, ?_⟩)
          rw [hod2, hbd]; rfl
        · rw [c26_4, c26_5, decide_eq_true (p := x.id ∈ live) c26_6, decide_eq_true (p := (followOf vs v.machine x.id).2 ≠ 0) c26_8] at hbd
          refine nretP [_, _, _] (List.Sublist.refl _) (.inl rfl) rfl ⟨_, _, _, rfl, Loads_one (Rd.own m2) (ty rfl), rfl, rfl⟩ ?_
          simp only [resOf]; rw [hod, hod2, hbd]; rfl
        · rw [c26_4, c26_5, decide_eq_true (p := x.id ∈ live) c26_6, decide_eq_false (p := (followOf vs v.machine x.id).2 ≠ 0) (fun e => e c26_8)] at hbd
          refine roundF_n (j + 1) (by omega) ⟨le_trans hl4 l26_7, by omega, ?_⟩ (by repeat' first | exact sR _ | exact sA _ _ | exact sN _ | apply s2 | apply s1) (by repeat' first | exact trivial | refine ⟨rfl, ?_⟩)
          rw [hod2, hbd]; rfl
      have hge : j = v.stubs.length := by omega
      subst hge
      rw [List.drop_length] at ht2
      (focus (refine Wr ?_; refine Sc rfl rfl rfl rfl rfl rfl rfl ?_; refine On ?_; refine WP_seq ?_; refine WP_cond rfl (fun c27_1 => ?_) (fun c27_1 => ?_) <;> (first | (simp [*] at c27_1; done) | (try simp at c27_1)); refine WP_exit ?_; refine then_e ?_; refine roundF_e ?_; refine block_e ?_; refine block_n ?_; refine then_n ?_; refine R_region ?_; refine S_q rfl rfl rfl (Q_add rfl rfl rfl (by omega)) ?_; refine Sm rfl ?_; refine OPS_nil ?_))
      refine roundF_n (k + 1) (by omega) ⟨le_trans hl3 hl4, by omega, ?_⟩ (by repeat' first | exact sR _ | exact sA _ _ | exact sN _ | apply s2 | apply s1) (by repeat' first | exact trivial | refine ⟨rfl, ?_⟩)
      rw [hod, ← ht2]; rfl
    have hge : k = vs.length := by omega
    subst hge
    rw [List.drop_length] at ht
    rw [← ht, List.any_nil, if_neg (by simp)]
    (focus (refine Wr ?_; refine Sc rfl rfl rfl rfl rfl rfl rfl ?_; refine On ?_; refine WP_seq ?_; refine WP_cond rfl (fun c28_1 => ?_) (fun c28_1 => ?_) <;> (first | (simp [*] at c28_1; done) | (try simp at c28_1)); refine WP_exit ?_; refine then_e ?_; refine roundF_e ?_; refine block_e ?_; refine then_n ?_; refine Wr ?_; refine S_w0 rfl rfl (W_one rfl rfl rfl (ty rfl) u0 rfl rfl rfl ?_); refine On ?_; refine WP_ret ?_))
    refine nretP [_] (List.Sublist.refl _) (.inl rfl) rfl ⟨_, _, _, rfl, Loads_one (Rd.own m0) (ty rfl), rfl, rfl⟩ ?_
    rfl
  · rintro d e h2 L2 hl1 ⟨rfl, hsub, hany⟩ _
    refine block_r (then_r ?_)
    refine nretP [(b0_1, cells [.int .i64 6] 28)] (hsub.append (List.Sublist.refl _)) (.inl rfl) rfl ⟨_, _, _, rfl, Loads_one (Rd.own m0) (ty rfl), rfl, rfl⟩ ?_
    simp only [resOf]; rw [if_pos hany]
end Go.Proofs.YtfhoecgiahpddaaGreat
/-
  CONTRACTS: Example and awake (refmeshlaw55).
-/
set_option linter.all false
namespace Go.Proofs.YtfhoecgiahpddaaGreat
open Go.Mesh Go.RowKit
set_option maxRecDepth 100000
set_option linter.unusedVariables false
set_option maxHeartbeats 4000000
attribute [local irreducible] WP OPS ANY ANYo LG LV FSpec PSpec QOP OPc OPw thenQ blockQ roundQ roundF retQ retM Rd At SLB OS cmpI orI cmpID namedB valB nodeB kindB validG valAux idxI findG zeroV viewOf vwAt idxOf recv flyB scionOf moveOf numberedOf idOf valueOf mget mput localB carriedB stubOf followF followOf flOf flightsOf flPre setL minusL compactL putI mergeN insN insAll unionR NMap Coll retN bodyS GMap Dfs refsV refsOf reachL movedOf movedG graphParts graphR isMove flightIDs mailIDs viewIDs rawRoots rootsR reachR deadN viewObjs garbageOf garbageR objsL thereB oddB badNode lostF badStub safe1 safe2 safe3 safe4 safeR msgB sizesB smallV fewB
def exA : Nd := ⟨(1, 1), 1, 2, [(2, 0, (2, 1))]⟩
def exB : Nd := ⟨(2, 1), 3, 1, []⟩
def exB2 : Nd := ⟨(2, 1), 0, 1, []⟩
def exC : Nd := ⟨(2, 2), 0, 1, []⟩
def exV : List View := [⟨1, [exA, exB], [⟨2, 7, (2, 1), false, false⟩], [], [(1, 1)], [], [], []⟩, ⟨2, [exB2, exC], [], [⟨1, 7, (2, 1)⟩], [], [], [], []⟩]
theorem at_of {h : Frag} {b t : Nat} {l : List Value} (e : h b = some (cells l t)) : At h b 0 l := at_of_keep fun p hp => by rw [List.mem_singleton.1 hp]; exact e
theorem example_s {h : Frag} : PSpec Tryz.prog 31 #[] h (fun h' v => ∃ p c, v = .slice p exV.length c ∧ SL h' 13 (ViewC 4398046511104) (.slice p exV.length c) exV) := by
  refine pspec_of (vs := []) Tryz.func31 Tryz.ntmps31 rfl rfl ?_
  (focus (refine Wr ?_; refine Sm rfl ?_; refine On ?_; refine Wr ?_; refine S_q rfl rfl rfl (Q_build rfl (by decide +kernel) (zer rfl) ⟨_, _, _, _, _, _, _, rfl, fld rfl rfl, ty rfl, rfl, rfl, ⟨_, _, _, _, _, _, _, rfl, fld rfl rfl, ty rfl, rfl, rfl, rfl, rfl⟩, rfl⟩ rfl) ?_; refine S_q rfl rfl rfl (Q_build rfl (by decide +kernel) (zer rfl) ⟨_, _, _, _, _, _, _, rfl, fld rfl rfl, ty rfl, rfl, rfl, ⟨_, _, _, _, _, _, _, rfl, fld rfl rfl, ty rfl, rfl, rfl, rfl, rfl⟩, rfl⟩ rfl) ?_; refine S_q rfl rfl rfl (Q_build rfl (by decide +kernel) (zer rfl) ⟨_, _, _, _, _, _, _, rfl, fld rfl rfl, ty rfl, rfl, rfl, ⟨_, _, _, _, _, _, _, rfl, fld rfl rfl, ty rfl, rfl, rfl, rfl, rfl⟩, rfl⟩ rfl) ?_; refine S_c rfl rfl rfl (C_alloc rfl (zer rfl) ?_); intro b0_1; refine S_c rfl rfl rfl (C_alloc rfl (zer rfl) ?_); intro b0_2; refine S_c rfl rfl rfl (C_alloc rfl (zer rfl) ?_); intro b0_3; refine S_w0 rfl rfl (W_all rfl rfl rfl (ty rfl) u2 (by first | rfl | assumption) (by first | rfl | assumption) (by first | rfl | assumption | exact ones_sub ‹_› _ _) ?_); refine S_w0 rfl rfl (W_all rfl rfl rfl (ty rfl) u1 (by first | rfl | assumption) (by first | rfl | assumption) (by first | rfl | assumption | exact ones_sub ‹_› _ _) ?_); refine S_w0 rfl rfl (W_all rfl rfl rfl (ty rfl) u0 (by first | rfl | assumption) (by first | rfl | assumption) (by first | rfl | assumption | exact ones_sub ‹_› _ _) ?_); refine On ?_; refine Wr ?_; refine S_load rfl rfl rfl rfl rfl ?_; refine L_agg (Rd.own m2) (ty rfl) (by first | rfl | assumption) ?_; refine S_load rfl rfl rfl rfl rfl ?_; refine L_agg (Rd.own m1) (ty rfl) (by first | rfl | assumption) ?_; refine S_q rfl rfl rfl (Q_build rfl (by decide +kernel) (zer rfl) ⟨_, _, _, _, _, _, _, rfl, fld rfl rfl, ty rfl, rfl, rfl, ⟨_, _, _, _, _, _, _, rfl, fld rfl rfl, ty rfl, rfl, rfl, rfl, rfl⟩, rfl⟩ rfl) ?_; refine S_c rfl rfl rfl (C_buildSlice rfl (elm rfl) (zer rfl) rfl ⟨_, _, _, rfl, rfl, rfl, rfl, rfl, rfl⟩ rfl rfl ?_); intro b0_4; refine S_q rfl rfl rfl (Q_build rfl (by decide +kernel) (zer rfl) ⟨_, _, _, _, _, _, _, rfl, fld rfl rfl, ty rfl, rfl, rfl, ⟨_, _, _, _, _, _, _, rfl, fld rfl rfl, ty rfl, rfl, rfl, ⟨_, _, _, _, _, _, _, rfl, fld rfl rfl, ty rfl, rfl, rfl, ⟨_, _, _, _, _, _, _, rfl, fld rfl rfl, ty rfl, rfl, rfl, rfl, rfl⟩, rfl⟩, rfl⟩, rfl⟩ rfl) ?_; refine S_load rfl rfl rfl rfl rfl ?_; refine L_agg (Rd.own m2) (ty rfl) (by first | rfl | assumption) ?_; refine S_q rfl rfl rfl (Q_build rfl (by decide +kernel) (zer rfl) ⟨_, _, _, _, _, _, _, rfl, fld rfl rfl, ty rfl, rfl, rfl, ⟨_, _, _, _, _, _, _, rfl, fld rfl rfl, ty rfl, rfl, rfl, ⟨_, _, _, _, _, _, _, rfl, fld rfl rfl, ty rfl, rfl, rfl, rfl, rfl⟩, rfl⟩, rfl⟩ rfl) ?_; refine S_c rfl rfl rfl (C_buildSlice rfl (elm rfl) (zer rfl) rfl ⟨_, _, _, rfl, rfl, rfl, rfl, ⟨_, _, _, rfl, rfl, rfl, rfl, rfl, rfl⟩, rfl⟩ rfl rfl ?_); intro b0_5; refine S_q rfl rfl rfl (Q_build rfl (by decide +kernel) (zer rfl) ⟨_, _, _, _, _, _, _, rfl, fld rfl rfl, ty rfl, rfl, rfl, rfl, rfl⟩ rfl) ?_; refine S_load rfl rfl rfl rfl rfl ?_; refine L_agg (Rd.own m3) (ty rfl) (by first | rfl | assumption) ?_; refine S_q rfl rfl rfl (Q_build rfl (by decide +kernel) (zer rfl) ⟨_, _, _, _, _, _, _, rfl, fld rfl rfl, ty rfl, rfl, rfl, ⟨_, _, _, _, _, _, _, rfl, fld rfl rfl, ty rfl, rfl, rfl, ⟨_, _, _, _, _, _, _, rfl, fld rfl rfl, ty rfl, rfl, rfl, ⟨_, _, _, _, _, _, _, rfl, fld rfl rfl, ty rfl, rfl, rfl, rfl, rfl⟩, rfl⟩, rfl⟩, rfl⟩ rfl) ?_; refine S_c rfl rfl rfl (C_buildSlice rfl (elm rfl) (zer rfl) rfl ⟨_, _, _, rfl, rfl, rfl, rfl, rfl, rfl⟩ rfl rfl ?_); intro b0_6; refine S_load rfl rfl rfl rfl rfl ?_; refine L_agg (Rd.own m5) (ty rfl) (by first | rfl | assumption) ?_; refine S_q rfl rfl rfl (Q_build rfl (by decide +kernel) (zer rfl) ⟨_, _, _, _, _, _, _, rfl, fld rfl rfl, ty rfl, rfl, rfl, ⟨_, _, _, _, _, _, _, rfl, fld rfl rfl, ty rfl, rfl, rfl, rfl, rfl⟩, rfl⟩ rfl) ?_; refine S_c rfl rfl rfl (C_buildSlice rfl (elm rfl) (zer rfl) rfl ⟨_, _, _, rfl, rfl, rfl, rfl, rfl, rfl⟩ rfl rfl ?_); intro b0_7; refine S_q rfl rfl rfl (Q_build rfl (by decide +kernel) (zer rfl) ⟨_, _, _, _, _, _, _, rfl, fld rfl rfl, ty rfl, rfl, rfl, ⟨_, _, _, _, _, _, _, rfl, fld rfl rfl, ty rfl, rfl, rfl, ⟨_, _, _, _, _, _, _, rfl, fld rfl rfl, ty rfl, rfl, rfl, ⟨_, _, _, _, _, _, _, rfl, fld rfl rfl, ty rfl, rfl, rfl, rfl, rfl⟩, rfl⟩, rfl⟩, rfl⟩ rfl) ?_; refine S_load rfl rfl rfl rfl rfl ?_; refine L_agg (Rd.own m5) (ty rfl) (by first | rfl | assumption) ?_; refine S_q rfl rfl rfl (Q_build rfl (by decide +kernel) (zer rfl) ⟨_, _, _, _, _, _, _, rfl, fld rfl rfl, ty rfl, rfl, rfl, ⟨_, _, _, _, _, _, _, rfl, fld rfl rfl, ty rfl, rfl, rfl, rfl, rfl⟩, rfl⟩ rfl) ?_; refine S_load rfl rfl rfl rfl rfl ?_; refine L_agg (Rd.own m4) (ty rfl) (by first | rfl | assumption) ?_; refine S_q rfl rfl rfl (Q_build rfl (by decide +kernel) (zer rfl) ⟨_, _, _, _, _, _, _, rfl, fld rfl rfl, ty rfl, rfl, rfl, ⟨_, _, _, _, _, _, _, rfl, fld rfl rfl, ty rfl, rfl, rfl, rfl, rfl⟩, rfl⟩ rfl) ?_; refine S_c rfl rfl rfl (C_buildSlice rfl (elm rfl) (zer rfl) rfl ⟨_, _, _, rfl, rfl, rfl, rfl, ⟨_, _, _, rfl, rfl, rfl, rfl, rfl, rfl⟩, rfl⟩ rfl rfl ?_); intro b0_8; refine S_q rfl rfl rfl (Q_build rfl (by decide +kernel) (zer rfl) ⟨_, _, _, _, _, _, _, rfl, fld rfl rfl, ty rfl, rfl, rfl, rfl, rfl⟩ rfl) ?_; refine S_load rfl rfl rfl rfl rfl ?_; refine L_agg (Rd.own m6) (ty rfl) (by first | rfl | assumption) ?_; refine S_q rfl rfl rfl (Q_build rfl (by decide +kernel) (zer rfl) ⟨_, _, _, _, _, _, _, rfl, fld rfl rfl, ty rfl, rfl, rfl, ⟨_, _, _, _, _, _, _, rfl, fld rfl rfl, ty rfl, rfl, rfl, ⟨_, _, _, _, _, _, _, rfl, fld rfl rfl, ty rfl, rfl, rfl, rfl, rfl⟩, rfl⟩, rfl⟩ rfl) ?_; refine S_c rfl rfl rfl (C_buildSlice rfl (elm rfl) (zer rfl) rfl ⟨_, _, _, rfl, rfl, rfl, rfl, rfl, rfl⟩ rfl rfl ?_); intro b0_9; refine S_q rfl rfl rfl (Q_build rfl (by decide +kernel) (zer rfl) ⟨_, _, _, _, _, _, _, rfl, fld rfl rfl, ty rfl, rfl, rfl, ⟨_, _, _, _, _, _, _, rfl, fld rfl rfl, ty rfl, rfl, rfl, ⟨_, _, _, _, _, _, _, rfl, fld rfl rfl, ty rfl, rfl, rfl, rfl, rfl⟩, rfl⟩, rfl⟩ rfl) ?_; refine S_c rfl rfl rfl (C_buildSlice rfl (elm rfl) (zer rfl) rfl ⟨_, _, _, rfl, rfl, rfl, rfl, ⟨_, _, _, rfl, rfl, rfl, rfl, rfl, rfl⟩, rfl⟩ rfl rfl ?_); intro b0_10; refine Sm rfl ?_; refine On ?_; refine WP_ret ?_))
  refine pretK [] _ rfl (.inl rfl) rfl ⟨_, _, rfl, rfl, rfl⟩ fun h' hl' hm => ?_
  have e10 := hm _ m0
  have e9 := hm _ m1
  have e8 := hm _ m2
  have e7 := hm _ m3
  have e6 := hm _ m4
  have e5 := hm _ m5
  have e4 := hm _ m6
  clear hm
  have s4 : SL h' 4 ValC (.slice (some ⟨b0_4, 0, none⟩) 1 1) exA.fields := slb_of_at (at_of e4) (Flat.one rfl rfl rfl) (by decide)
  have s5 : SL h' 5 (NodeC 4398046511104) (.slice (some ⟨b0_5, 0, none⟩) 2 2) [exA, exB] := slb_of_at (at_of e5) (Flat.append (Flat.one rfl rfl ⟨_, _, rfl, s4⟩) (Flat.one rfl rfl ⟨_, _, rfl, SLB.nil _ _ _ _ _ _⟩)) (by decide)
  have s6 : SL h' 12 StubC (.slice (some ⟨b0_6, 0, none⟩) 1 1) [⟨2, 7, (2, 1), false, false⟩] := slb_of_at (at_of e6) (Flat.one rfl rfl ⟨_, _, _, _, _, _, rfl⟩) (by decide)
  have s7 : SL h' 3 NamedC (.slice (some ⟨b0_7, 0, none⟩) 1 1) [(1, 1)] := slb_of_at (at_of e7) (Flat.one rfl rfl ⟨_, rfl⟩) (by decide)
  have s8 : SL h' 5 (NodeC 4398046511104) (.slice (some ⟨b0_8, 0, none⟩) 2 2) [exB2, exC] := slb_of_at (at_of e8) (Flat.append (Flat.one rfl rfl ⟨_, _, rfl, SLB.nil _ _ _ _ _ _⟩) (Flat.one rfl rfl ⟨_, _, rfl, SLB.nil _ _ _ _ _ _⟩)) (by decide)
  have s9 : SL h' 12 ScionC (.slice (some ⟨b0_9, 0, none⟩) 1 1) [⟨1, 7, (2, 1)⟩] := slb_of_at (at_of e9) (Flat.one rfl rfl ⟨_, _, _, _, _, _, _, _, rfl⟩) (by decide)
  refine ⟨some ⟨b0_10, 0, none⟩, 2, rfl, slb_of_at (at_of e10) (Flat.append (Flat.one rfl rfl ⟨by unfold inI64; decide, _, _, _, _, _, _, _, _, _, _, _, _, _, _, _, _, _, _, _, rfl, s5, s6, ?_, s7, ?_, ?_, ?_⟩) (Flat.one rfl rfl ⟨by unfold inI64; decide, _, _, _, _, _, _, _, _, _, _, _, _, _, _, _, _, _, _, _, rfl, s8, ?_, s9, ?_, ?_, ?_, ?_⟩)) (by decide)⟩
  all_goals exact SLB.nil _ _ _ _ _ _
end Go.Proofs.YtfhoecgiahpddaaGreat
/-
  CONTRACT: awake (refmeshlaw55): the example of the chapter.
-/
set_option linter.all false
namespace Go.Proofs.YtfhoecgiahpddaaGreat
open Go.Mesh Go.RowKit
set_option maxRecDepth 100000
set_option linter.unusedVariables false
set_option maxHeartbeats 4000000
attribute [local irreducible] WP OPS ANY ANYo LG LV FSpec PSpec QOP OPc OPw thenQ blockQ roundQ roundF retQ retM Rd At SLB OS cmpI orI cmpID namedB valB nodeB kindB validG valAux idxI findG zeroV viewOf vwAt idxOf recv flyB scionOf moveOf numberedOf idOf valueOf mget mput localB carriedB stubOf followF followOf flOf flightsOf flPre setL minusL compactL putI mergeN insN insAll unionR NMap Coll retN bodyS GMap Dfs refsV refsOf reachL movedOf movedG graphParts graphR isMove flightIDs mailIDs viewIDs rawRoots rootsR reachR deadN viewObjs garbageOf garbageR objsL thereB oddB badNode lostF badStub safe1 safe2 safe3 safe4 safeR msgB sizesB smallV fewB
theorem ex_graph : graphR exV = ([exA, exB2, exC], 0) := by decide +kernel
theorem ex_roots : rootsR exV = [(1, 1)] := by decide +kernel
theorem ex_follow : followOf exV 1 (2, 1) = ([1, 2], 0) := by decide +kernel
theorem ex_reach : reachL [exA, exB2, exC] [(1, 1)] = [(1, 1), (2, 1)] := by
  refine SI_unique (SI_reachL _ _) (by unfold SI; decide +kernel) fun x => ?_
  rw [mem_reachL]
  have h1 : findG [exA, exB2, exC] (1, 1) = some exA := by decide +kernel
  have h2 : findG [exA, exB2, exC] (2, 1) = some exB2 := by decide +kernel
  have r1 : Reach [exA, exB2, exC] [(1, 1)] (1, 1) := .root (by simp) h1
  have r2 : Reach [exA, exB2, exC] [(1, 1)] (2, 1) := .step r1 h1 (by decide +kernel) h2
  constructor
  · intro h
    induction h with
    | root h1 _ => simp at h1; simp [h1]
    | step _ hm hx _ ih =>
      simp only [List.mem_cons, List.not_mem_nil, or_false] at ih
      rcases ih with rfl | rfl
      · rw [h1] at hm; cases hm
        have : refsOf exA = [(2, 1)] := by decide +kernel
        rw [this] at hx; simp at hx; simp [hx]
      · rw [h2] at hm; cases hm
        have : refsOf exB2 = [] := by decide +kernel
        rw [this] at hx; simp at hx
  · intro h
    simp only [List.mem_cons, List.not_mem_nil, or_false] at h
    rcases h with rfl | rfl
    · exact r1
    · exact r2
theorem ex_reachR : reachR exV = [(1, 1), (2, 1)] := by rw [reachR, ex_graph, ex_roots]; exact ex_reach
theorem ex_garbage : garbageR exV = 1 := by rw [garbageR, ex_reachR]; decide +kernel
theorem ex_safe : safeR exV = 0 := by rw [safeR, ex_graph, ex_roots, ex_reach]; decide +kernel
theorem ex_small : Small exV where
  len := by decide
  objs := by decide
  stubs := by decide
  scions := by decide
  names := by decide
  mail := by decide
  flights := by decide
  received := by decide
  fields := by decide
  args := by decide
  letter := by decide
  moved := by decide
  pmail := by decide
  pargs := by decide
theorem awake_s {h : Frag} : PSpec Tryz.prog 9 #[] h (fun _ v => v = .bool true) := by
  have hsm := ex_small
  have hlen := hsm.len
  have hr := ex_reachR
  refine pspec_of (vs := []) Tryz.func9 Tryz.ntmps9 rfl rfl ?_
  (focus (refine Wr ?_; refine Sm rfl ?_; refine On ?_; refine Wr ?_; refine S_c rfl rfl rfl (C_call (example_s) rfl rfl rfl (cal rfl) ?_); rintro h0_1 _ l0_1 ⟨pe0_1, qe0_1, rfl, fe0_1⟩; refine Sm rfl ?_; refine On ?_; refine Wr ?_; refine Sm rfl ?_; refine S_q rfl rfl rfl (Q_build rfl (by decide +kernel) (zer rfl) ⟨_, _, _, _, _, _, _, rfl, fld rfl rfl, ty rfl, rfl, rfl, ⟨_, _, _, _, _, _, _, rfl, fld rfl rfl, ty rfl, rfl, rfl, rfl, rfl⟩, rfl⟩ rfl) ?_; refine S_c rfl rfl rfl (C_call (follow_s (id := (_, _)) ‹_› (by omega)) rfl rfl ⟨_, _, rfl, ⟨_, _, rfl, ⟨_, _, rfl, rfl, rfl⟩, rfl⟩, rfl⟩ (cal rfl) ?_); rintro h0_2 _ l0_2 ⟨p0_2, q0_2, rfl, f0_2⟩; replace fe0_1 := fe0_1.up l0_2; refine Sm rfl ?_; refine S_q rfl rfl rfl (Q_extract rfl rfl rfl) ?_; refine S_q rfl rfl rfl (Q_extract rfl rfl rfl) ?_; refine Sm rfl ?_; refine Sm rfl ?_; refine On ?_; refine Wr ?_; refine Sm rfl ?_; refine S_c rfl rfl rfl (C_call (graph_s ‹_› ‹_›) rfl rfl ⟨_, _, rfl, rfl, rfl⟩ (cal rfl) ?_); rintro h0_3 _ l0_3 ⟨_, rfl, pg0_3, qg0_3, rfl, fg0_3⟩; replace f0_2 := f0_2.up l0_3; replace fe0_1 := fe0_1.up l0_3; refine Sm rfl ?_; refine S_q rfl rfl rfl (Q_extract rfl rfl rfl) ?_; refine S_q rfl rfl rfl (Q_extract rfl rfl rfl) ?_; refine S_c rfl rfl rfl (C_alloc rfl (zer rfl) ?_); intro b0_4; refine S_w0 rfl rfl (W_all rfl rfl rfl (ty rfl) u0 (by first | rfl | assumption) (by first | rfl | assumption) (by first | rfl | assumption | exact ones_sub ‹_› _ _) ?_); refine Sm rfl ?_; refine On ?_; refine Wr ?_; refine Sm rfl ?_; refine Sc rfl rfl rfl rfl rfl rfl rfl ?_; refine Sm rfl ?_; refine S_gsplit rfl rfl rfl rfl (fun c0_5 => ?_) (fun c0_5 => ?_) <;> (first | (simp [*] at c0_5; done) | (try simp at c0_5)); (focus (refine S_gq rfl rfl rfl rfl rfl rfl (Q_move rfl rfl) ?_; refine S_gc rfl rfl rfl rfl rfl rfl (C_buildSlice rfl (elm rfl) (zer rfl) rfl ⟨_, _, _, rfl, rfl, rfl, rfl, ⟨_, _, _, rfl, rfl, rfl, rfl, rfl, rfl⟩, rfl⟩ rfl rfl ?_); intro b0_6)); rotate_left 1; (focus (refine Sn rfl ?_; refine Sn rfl ?_; refine Sn rfl ?_; refine S_q rfl rfl rfl (Q_pick_f rfl rfl rfl) ?_; refine Sm rfl ?_; refine Sn rfl ?_; refine Sn rfl ?_; refine Sn rfl ?_; refine Sn rfl ?_; refine S_q rfl rfl rfl (Q_pick_f rfl rfl rfl) ?_; refine Sm rfl ?_; refine Sn rfl ?_; refine Sn rfl ?_; refine Sn rfl ?_; refine S_q rfl rfl rfl (Q_pick_f rfl rfl rfl) ?_; refine Sm rfl ?_; refine Sn rfl ?_; refine Sn rfl ?_; refine S_q rfl rfl rfl (Q_pick_f rfl rfl rfl) ?_; refine Sm rfl ?_; refine Sn rfl ?_; refine Sn rfl ?_; refine Sn rfl ?_; refine Sn rfl ?_; refine S_q rfl rfl rfl (Q_pick_f rfl rfl rfl) ?_; refine Sm rfl ?_; refine Sn rfl ?_; refine Sn rfl ?_; refine Sn rfl ?_; refine S_q rfl rfl rfl (Q_pick_f rfl rfl rfl) ?_; refine Sm rfl ?_; refine On ?_; refine WP_ret ?_)); rotate_left 1))
  · (focus (refine OPS_keepM [] [_] _ rfl ?_; rintro h1_k l1_k k1_k; have a1_k := at_of_keep k1_k; clear k1_k; replace fg0_3 := fg0_3.up l1_k; replace f0_2 := f0_2.up l1_k; replace fe0_1 := fe0_1.up l1_k))
    have hy : SL h1_k 1 IntC (.slice (some ⟨b0_6, 0, none⟩) 2 2) [1, 2] := slb_of_at a1_k (Flat.append (Flat.one rfl rfl rfl) (Flat.one rfl rfl rfl)) (by decide)
    refine S_gc rfl rfl rfl rfl rfl rfl (C_callv (ints_s f0_2 hy) rfl rfl ⟨_, _, rfl, ⟨_, _, rfl, rfl, rfl⟩, rfl⟩ (cal rfl) ?_)
    (focus (refine S_q rfl rfl rfl (Q_pick_t rfl rfl rfl) ?_; refine Sm rfl ?_; refine S_gsplit rfl rfl rfl rfl (fun c2_1 => ?_) (fun c2_1 => ?_) <;> (first | (simp [*] at c2_1; done) | (try simp at c2_1)); (focus (refine S_gq rfl rfl rfl rfl rfl rfl (Q_move rfl rfl) ?_; refine S_gc rfl rfl rfl rfl rfl rfl (C_call (reachable_s ‹_› ‹_›) rfl rfl ⟨_, _, rfl, rfl, rfl⟩ (cal rfl) ?_); rintro h2_2 _ l2_2 ⟨p2_2, q2_2, rfl, f2_2⟩; replace a1_k := a1_k.up l2_2; replace fg0_3 := fg0_3.up l2_2; replace f0_2 := f0_2.up l2_2; replace fe0_1 := fe0_1.up l2_2; replace hy := hy.up l2_2; refine S_gq rfl rfl rfl rfl rfl rfl (Q_len rfl rfl rfl rfl rfl rfl) ?_; refine S_gq rfl rfl rfl rfl rfl rfl (Q_cmp rfl rfl rfl rfl) ?_; refine S_q rfl rfl rfl (Q_pick_t rfl rfl rfl) ?_; refine Sm rfl ?_; refine S_gsplit rfl rfl rfl rfl (fun c2_3 => ?_) (fun c2_3 => ?_) <;> (first | (simp [*] at c2_3; done) | (try simp at c2_3)); refine S_gq rfl rfl rfl rfl rfl rfl (Q_move rfl rfl) ?_; refine S_gc rfl rfl rfl rfl rfl rfl (C_callv (garbage_s ‹_› ‹_›) rfl rfl ⟨_, _, rfl, rfl, rfl⟩ (cal rfl) ?_); refine S_gq rfl rfl rfl rfl rfl rfl (Q_cmp rfl rfl rfl rfl) ?_; refine S_q rfl rfl rfl (Q_pick_t rfl rfl rfl) ?_; refine Sm rfl ?_; refine S_gsplit rfl rfl rfl rfl (fun c2_4 => ?_) (fun c2_4 => ?_) <;> (first | (simp [*] at c2_4; done) | (try simp at c2_4)); (focus (refine S_gq rfl rfl rfl rfl rfl rfl (Q_move rfl rfl) ?_; refine S_gq rfl rfl rfl rfl rfl rfl (Q_cmp rfl rfl rfl rfl) ?_; refine S_q rfl rfl rfl (Q_pick_t rfl rfl rfl) ?_; refine Sm rfl ?_; refine S_gsplit rfl rfl rfl rfl (fun c2_5 => ?_) (fun c2_5 => ?_) <;> (first | (simp [*] at c2_5; done) | (try simp at c2_5)); (focus (refine S_gq rfl rfl rfl rfl rfl rfl (Q_fieldAddr rfl rfl (fld rfl rfl)) ?_; refine S_gload rfl rfl rfl rfl rfl rfl rfl rfl ?_; refine L_one (Rd.own m0) (ty rfl) ?_; refine S_gq rfl rfl rfl rfl rfl rfl (Q_len rfl rfl rfl rfl rfl rfl) ?_; refine S_gq rfl rfl rfl rfl rfl rfl (Q_cmp rfl rfl rfl rfl) ?_; refine S_q rfl rfl rfl (Q_pick_t rfl rfl rfl) ?_; refine Sm rfl ?_; refine S_gsplit rfl rfl rfl rfl (fun c2_6 => ?_) (fun c2_6 => ?_) <;> (first | (simp [*] at c2_6; done) | (try simp at c2_6)); (focus (refine S_gq rfl rfl rfl rfl rfl rfl (Q_move rfl rfl) ?_; refine S_gc rfl rfl rfl rfl rfl rfl (C_callv (safe_s ‹_› ‹_›) rfl rfl ⟨_, _, rfl, rfl, rfl⟩ (cal rfl) ?_); refine S_gq rfl rfl rfl rfl rfl rfl (Q_cmp rfl rfl rfl rfl) ?_; refine S_q rfl rfl rfl (Q_pick_t rfl rfl rfl) ?_; refine Sm rfl ?_; refine On ?_; refine WP_ret ?_)); rotate_left 1; (focus (refine Sn rfl ?_; refine Sn rfl ?_; refine Sn rfl ?_; refine S_q rfl rfl rfl (Q_pick_f rfl rfl rfl) ?_; refine Sm rfl ?_; refine On ?_; refine WP_ret ?_)); rotate_left 1)); rotate_left 2; (focus (refine Sn rfl ?_; refine Sn rfl ?_; refine Sn rfl ?_; refine Sn rfl ?_; refine S_q rfl rfl rfl (Q_pick_f rfl rfl rfl) ?_; refine Sm rfl ?_; refine Sn rfl ?_; refine Sn rfl ?_; refine Sn rfl ?_; refine S_q rfl rfl rfl (Q_pick_f rfl rfl rfl) ?_; refine Sm rfl ?_; refine On ?_; refine WP_ret ?_)); rotate_left 1)); rotate_left 3; (focus (refine Sn rfl ?_; refine Sn rfl ?_; refine S_q rfl rfl rfl (Q_pick_f rfl rfl rfl) ?_; refine Sm rfl ?_; refine Sn rfl ?_; refine Sn rfl ?_; refine Sn rfl ?_; refine Sn rfl ?_; refine S_q rfl rfl rfl (Q_pick_f rfl rfl rfl) ?_; refine Sm rfl ?_; refine Sn rfl ?_; refine Sn rfl ?_; refine Sn rfl ?_; refine S_q rfl rfl rfl (Q_pick_f rfl rfl rfl) ?_; refine Sm rfl ?_; refine On ?_; refine WP_ret ?_)); rotate_left 1)); rotate_left 4; (focus (refine Sn rfl ?_; refine Sn rfl ?_; refine Sn rfl ?_; refine Sn rfl ?_; refine S_q rfl rfl rfl (Q_pick_f rfl rfl rfl) ?_; refine Sm rfl ?_; refine Sn rfl ?_; refine Sn rfl ?_; refine Sn rfl ?_; refine S_q rfl rfl rfl (Q_pick_f rfl rfl rfl) ?_; refine Sm rfl ?_; refine Sn rfl ?_; refine Sn rfl ?_; refine S_q rfl rfl rfl (Q_pick_f rfl rfl rfl) ?_; refine Sm rfl ?_; refine Sn rfl ?_; refine Sn rfl ?_; refine Sn rfl ?_; refine Sn rfl ?_; refine S_q rfl rfl rfl (Q_pick_f rfl rfl rfl) ?_; refine Sm rfl ?_; refine Sn rfl ?_; refine Sn rfl ?_; refine Sn rfl ?_; refine S_q rfl rfl rfl (Q_pick_f rfl rfl rfl) ?_; refine Sm rfl ?_; refine On ?_; refine WP_ret ?_)); rotate_left 1))
    · refine pret (.inl rfl) rfl ⟨_, _, rfl, rfl, rfl⟩ ?_
      simp only [resOf]; rw [ex_safe]; rfl
    · exact absurd (by rw [ex_graph]; rfl) c2_6
    · exact absurd (by rw [ex_graph]) c2_5
    · exact absurd (by rw [ex_garbage]; rfl) c2_4
    · exact absurd (by rw [ex_follow]) c2_1
  · exact absurd (by rw [ex_follow]) c0_5
end Go.Proofs.YtfhoecgiahpddaaGreat
/-
  WHAT THE LAWS SHARE: small views are few and small; maps of identities to true.
-/
set_option linter.all false
namespace Go.Proofs.YtfhoecgiahpddaaGreat
open Go.Mesh Go.RowKit
set_option maxRecDepth 100000
set_option linter.unusedVariables false
set_option maxHeartbeats 4000000
attribute [local irreducible] WP OPS ANY ANYo LG LV FSpec PSpec QOP OPc OPw thenQ blockQ roundQ roundF retQ retM Rd At SLB OS cmpI orI cmpID namedB valB nodeB kindB validG valAux idxI findG zeroV viewOf vwAt idxOf recv flyB scionOf moveOf numberedOf idOf valueOf mget mput localB carriedB stubOf followF followOf flOf flightsOf flPre setL minusL compactL putI mergeN insN insAll unionR NMap Coll retN bodyS GMap Dfs refsV refsOf reachL movedOf movedG graphParts graphR isMove flightIDs mailIDs viewIDs rawRoots rootsR reachR deadN viewObjs garbageOf garbageR objsL thereB oddB badNode lostF badStub safe1 safe2 safe3 safe4 safeR msgB sizesB smallV fewB
theorem SLB.cast {α : Type} {B B' : Nat} {h : Frag} {k : Nat} {C C' : CR α} {v : Value} {xs : List α} (x : SLB B h k C v xs) (hl : xs.length ≤ B') (hc : ∀ y, y ∈ xs → ∀ cs, C h y cs → C' h y cs) : SLB B' h k C' v xs := by
  unfold SLB at x ⊢
  obtain ⟨_, ⟨p, cap, e, rfl⟩ | ⟨b, off, cap, e, g⟩⟩ := x
  · exact ⟨hl, .inl ⟨p, cap, e, rfl⟩⟩
  · refine ⟨hl, .inr ⟨b, off, cap, e, fun i y hy => ?_⟩⟩
    obtain ⟨vs, h1, h2, h3, h4⟩ := g i y hy
    exact ⟨vs, h1, h2, hc y (List.mem_of_getElem? hy) vs h3, h4⟩
theorem few_small {vs : List View} (h : fewB vs = true) : Small vs := by
  rw [fewB, Bool.and_eq_true, decide_eq_true_eq] at h
  obtain ⟨h, hl⟩ := h
  rw [List.all_eq_true] at h
  have hv : ∀ v, v ∈ vs → (v.objects.length ≤ 12 ∧ v.stubs.length ≤ 12 ∧ v.scions.length ≤ 12 ∧ v.names.length ≤ 6 ∧ v.mail.length ≤ 6 ∧ v.flights.length ≤ 6 ∧ v.received.length ≤ 10) ∧ (∀ n, n ∈ v.objects → n.fields.length ≤ 6) ∧ (∀ m, m ∈ v.mail → m.args.length ≤ 6) ∧
      ∀ x, x ∈ v.flights → x.msg.args.length ≤ 6 ∧ x.msg.parcel.fields.length ≤ 6 ∧ x.msg.parcel.mail.length ≤ 4 ∧ ∀ l, l ∈ x.msg.parcel.mail → l.length ≤ 6 := by
    intro v hv
    have := h v hv
    simp only [smallV, sizesB, Bool.and_eq_true, List.all_eq_true, decide_eq_true_eq, msgB] at this
    obtain ⟨h1, h2, h3, h4⟩ := this
    exact ⟨h1, h2, h3, h4⟩
  exact ⟨hl, fun v m => (hv v m).1.1, fun v m => (hv v m).1.2.1, fun v m => (hv v m).1.2.2.1, fun v m => (hv v m).1.2.2.2.1, fun v m => (hv v m).1.2.2.2.2.1, fun v m => (hv v m).1.2.2.2.2.2.1, fun v m => (hv v m).1.2.2.2.2.2.2,
    fun v m => (hv v m).2.1, fun v m => (hv v m).2.2.1, fun v m x hx => ((hv v m).2.2.2 x hx).1, fun v m x hx => ((hv v m).2.2.2 x hx).2.1, fun v m x hx => ((hv v m).2.2.2 x hx).2.2.1, fun v m x hx => ((hv v m).2.2.2 x hx).2.2.2⟩
theorem NodeC.cast {B B' : Nat} {h : Frag} {n : Nd} {cs : List Value} (x : NodeC B h n cs) (hl : n.fields.length ≤ B') : NodeC B' h n cs := by
  obtain ⟨p, c, e, s⟩ := x
  exact ⟨p, c, e, SLB.cast s hl fun _ _ _ y => y⟩
theorem slb_small {h : Frag} {a : Value} {vs : List View} (hs : SLB 9223372036854775807 h 13 (ViewC 9223372036854775807) a vs) (sm : Small vs) : SL h 13 (ViewC 4398046511104) a vs := by
  refine SLB.cast hs (Nat.le_trans sm.len (by decide)) fun v hv cs hc => ?_
  obtain ⟨hi, xa, po, qo, qs, qt, pc, qc, pn, qn, pm, qm, xw, xv, pf, qf, pr, qr, xe, xf, rfl, s1, s2, s3, s4, s5, s6, s7⟩ := hc
  have l1 := sm.objs v hv
  have l2 := sm.stubs v hv
  have l3 := sm.scions v hv
  have l4 := sm.names v hv
  have l5 := sm.mail v hv
  have l6 := sm.flights v hv
  have l7 := sm.received v hv
  refine ⟨hi, xa, po, qo, qs, qt, pc, qc, pn, qn, pm, qm, xw, xv, pf, qf, pr, qr, xe, xf, rfl, ?_, ?_, ?_, ?_, ?_, ?_, ?_⟩
  · exact SLB.cast s1 (by omega) fun n hn cs hc => NodeC.cast hc (Nat.le_trans (sm.fields v hv n hn) (by decide))
  · exact SLB.cast s2 (by omega) fun _ _ _ y => y
  · exact SLB.cast s3 (by omega) fun _ _ _ y => y
  · exact SLB.cast s4 (by omega) fun _ _ _ y => y
  · refine SLB.cast s5 (by omega) fun m hm cs hc => ?_
    obtain ⟨a, b, m', p, c, e, s⟩ := hc
    exact ⟨a, b, m', p, c, e, SLB.cast s (Nat.le_trans (sm.args v hv m hm) (by decide)) fun _ _ _ y => y⟩
  · refine SLB.cast s6 (by omega) fun x hx cs hc => ?_
    obtain ⟨a1, a2, b1, b2, b3, pa, qa, pf, qf, pm, qm, wv, y1, y2, y3, y4, y5, y6, y7, y8, y9, y10, y11, y12, y13, y14, y15, e, t1, t2, t3⟩ := hc
    refine ⟨a1, a2, b1, b2, b3, pa, qa, pf, qf, pm, qm, wv, y1, y2, y3, y4, y5, y6, y7, y8, y9, y10, y11, y12, y13, y14, y15, e, ?_, ?_, ?_⟩
    · exact SLB.cast t1 (Nat.le_trans (sm.letter v hv x hx) (by decide)) fun _ _ _ y => y
    · exact SLB.cast t2 (Nat.le_trans (sm.moved v hv x hx) (by decide)) fun _ _ _ y => y
    · refine SLB.cast t3 (Nat.le_trans (sm.pmail v hv x hx) (by decide)) fun l hl cs hc => ?_
      obtain ⟨a, b, m, p, c, e, s⟩ := hc
      exact ⟨a, b, m, p, c, e, SLB.cast s (Nat.le_trans (sm.pargs v hv x hx l hl) (by decide)) fun _ _ _ y => y⟩
  · exact SLB.cast s7 (by omega) fun _ _ _ y => y
/-- a map in which what is in s is true -/
def BMap (ps : List (ID × Value)) (s : List ID) : Prop := ∀ id, mget id ps = if id ∈ s then some (.bool true) else none
theorem BMap_nil : BMap [] [] := fun id => by simp [mget]
theorem BMap_put {ps : List (ID × Value)} {s : List ID} (x : BMap ps s) (id : ID) : BMap (mput id (.bool true) ps) (s ++ [id]) := fun k => by
  rw [mget_mput, x k]
  by_cases h1 : id = k
  · subst h1; simp
  · by_cases h2 : k ∈ s
    · simp [h1, h2]
    · simp [h1, h2, Ne.symm h1]
theorem BMap_at {ps : List (ID × Value)} {s : List ID} (x : BMap ps s) {i : Nat} {k : ID} {v : Value} (h : ps[i]? = some (k, v)) : k ∈ s := by
  have := x k
  by_cases hk : k ∈ s
  · exact hk
  · rw [if_neg hk] at this
    exact absurd (List.mem_map.2 ⟨_, List.mem_of_getElem? h, rfl⟩) (mget_none_keys this)
theorem BMap_get {ps : List (ID × Value)} {s : List ID} (x : BMap ps s) {id : ID} (h : id ∈ s) : mget id ps = some (.bool true) := by rw [x id, if_pos h]
/-- the places of a map that a range has come by -/
def Seen (n : Nat) (seen : List Nat) : Prop := seen.Nodup ∧ ∀ i, i ∈ seen → i < n
theorem Seen_nil (n : Nat) : Seen n [] := ⟨List.nodup_nil, by simp⟩
theorem Seen_snoc {n i : Nat} {seen : List Nat} (x : Seen n seen) (hi : i ∉ seen) (hn : i < n) : Seen n (seen ++ [i]) := by
  refine ⟨?_, fun j hj => ?_⟩
  · rw [List.nodup_append]
    exact ⟨x.1, by simp, fun a ha b hb e => hi (by simp at hb; subst hb; subst e; exact ha)⟩
  · rcases List.mem_append.1 hj with h | h
    · exact x.2 j h
    · simp at h; omega
theorem Seen_le {n : Nat} {seen : List Nat} (x : Seen n seen) : seen.length ≤ n := by
  have := nodup_subN seen (List.range n) x.1 fun i hi => List.mem_range.2 (x.2 i hi)
  simpa using this
attribute [local irreducible] BMap Seen
end Go.Proofs.YtfhoecgiahpddaaGreat
/-
  THE LAW ObserverGraphs returns true.
-/
set_option linter.all false
namespace Go.Proofs.YtfhoecgiahpddaaGreat
open Go.Mesh Go.RowKit
set_option maxRecDepth 100000
set_option linter.unusedVariables false
set_option maxHeartbeats 4000000
attribute [local irreducible] WP OPS ANY ANYo LG LV FSpec PSpec QOP OPc OPw thenQ blockQ roundQ roundF retQ retM Rd At SLB OS cmpI orI cmpID namedB valB nodeB kindB validG valAux idxI findG zeroV viewOf vwAt idxOf recv flyB scionOf moveOf numberedOf idOf valueOf mget mput localB carriedB msgB sizesB smallV fewB stubOf followF followOf flOf flightsOf flPre setL minusL compactL putI mergeN insN insAll unionR NMap Coll retN bodyS GMap Dfs refsV refsOf reachL movedOf movedG graphParts graphR isMove flightIDs mailIDs viewIDs rawRoots rootsR refFl refMoved refPut keepL Bfs reachR deadN viewObjs garbageOf garbageR objsL refView1 refRaw thereB oddB badNode lostF badStub safe1 safe2 safe3 safe4 safeR BMap Seen
theorem graphs_s {h : Frag} {a : Value} {vs : List View} (hs : SLB 9223372036854775807 h 13 (ViewC 9223372036854775807) a vs) : PSpec Tryz.prog 4 #[a] h (fun _ v => v = .bool true) := by
  obtain ⟨pv, cv, rfl⟩ := hs.slice
  refine pspec_of (vs := [.slice pv vs.length cv]) Tryz.func4 Tryz.ntmps4 rfl rfl ?_
  by_cases hfew : fewB vs = true
  · have sm := few_small hfew
    have hB := hs
    replace hs := slb_small hs sm
    have hlen := sm.len
    (focus (refine Wr ?_; refine Sm rfl ?_; refine On ?_; refine WP_seq ?_; refine Wr ?_; refine S_c rfl rfl rfl (C_callv (awake_s) rfl rfl rfl (cal rfl) ?_); refine S_q rfl rfl rfl (Q_not rfl rfl) ?_; refine On ?_; refine cond_f rfl ?_; refine WP_skip ?_; refine then_n ?_; refine WP_seq ?_; refine Wr ?_; refine Sm rfl ?_; refine S_c rfl rfl rfl (C_callv (few_s ‹_›) rfl rfl ⟨_, _, rfl, rfl, rfl⟩ (cal rfl) ?_); refine S_q rfl rfl rfl (Q_not rfl rfl) ?_; refine On ?_; refine WP_cond rfl (fun c0_1 => ?_) (fun c0_1 => ?_) <;> (first | (simp [*] at c0_1; done) | (try simp at c0_1)); refine WP_skip ?_; refine then_n ?_; refine Wr ?_; refine Sm rfl ?_; refine S_c rfl rfl rfl (C_call (graph_s ‹_› ‹_›) rfl rfl ⟨_, _, rfl, rfl, rfl⟩ (cal rfl) ?_); rintro h0_2 _ l0_2 ⟨_, rfl, pg0_2, qg0_2, rfl, fg0_2⟩; replace hB := hB.up l0_2; replace hs := hs.up l0_2; refine Sm rfl ?_; refine S_q rfl rfl rfl (Q_extract rfl rfl rfl) ?_; refine S_q rfl rfl rfl (Q_extract rfl rfl rfl) ?_; refine S_c rfl rfl rfl (C_alloc rfl (zer rfl) ?_); intro b0_3; refine S_w0 rfl rfl (W_all rfl rfl rfl (ty rfl) u0 (by first | rfl | assumption) (by first | rfl | assumption) (by first | rfl | assumption | exact ones_sub ‹_› _ _) ?_); refine Sm rfl ?_; refine On ?_; refine Wr ?_; refine Sm rfl ?_; refine S_c rfl rfl rfl (C_call (refGraph_s ‹_› ‹_›) rfl rfl ⟨_, _, rfl, rfl, rfl⟩ (cal rfl) ?_); rintro h0_4 _ l0_4 ⟨_, rfl, pg0_4, qg0_4, rfl, fg0_4⟩; replace fg0_2 := fg0_2.up l0_4; replace hB := hB.up l0_4; replace hs := hs.up l0_4; refine Sm rfl ?_; refine S_q rfl rfl rfl (Q_extract rfl rfl rfl) ?_; refine S_q rfl rfl rfl (Q_extract rfl rfl rfl) ?_; refine S_c rfl rfl rfl (C_alloc rfl (zer rfl) ?_); intro b0_5; refine S_w0 rfl rfl (W_all rfl rfl rfl (ty rfl) u0 (by first | rfl | assumption) (by first | rfl | assumption) (by first | rfl | assumption | exact ones_sub ‹_› _ _) ?_); refine Sm rfl ?_; refine On ?_; refine Wr ?_; refine Sm rfl ?_; refine Sm rfl ?_; refine Sc rfl rfl rfl rfl rfl rfl rfl ?_; refine Sm rfl ?_; refine S_gsplit rfl rfl rfl rfl (fun c0_6 => ?_) (fun c0_6 => ?_) <;> (first | (simp [*] at c0_6; done) | (try simp at c0_6)); refine S_gload rfl rfl rfl rfl rfl rfl rfl rfl ?_; refine L_agg (Rd.own m1) (ty rfl) (by first | rfl | assumption) ?_; refine S_gload rfl rfl rfl rfl rfl rfl rfl rfl ?_; refine L_agg (Rd.own m0) (ty rfl) (by first | rfl | assumption) ?_; refine S_gc rfl rfl rfl rfl rfl rfl (C_callv (equal_s ⟨_, _, rfl, by assumption⟩ ⟨_, _, rfl, by assumption⟩) rfl rfl ⟨_, _, rfl, ⟨_, _, rfl, rfl, rfl⟩, rfl⟩ (cal rfl) ?_); refine S_q rfl rfl rfl (Q_pick_t rfl rfl rfl) ?_; refine Sm rfl ?_; refine S_gsplit rfl rfl rfl rfl (fun c0_7 => ?_) (fun c0_7 => ?_) <;> (first | (simp [*] at c0_7; done) | (try simp at c0_7)); refine S_gq rfl rfl rfl rfl rfl rfl (Q_move rfl rfl) ?_; refine S_gc rfl rfl rfl rfl rfl rfl (C_call (roots_s ‹_› ‹_›) rfl rfl ⟨_, _, rfl, rfl, rfl⟩ (cal rfl) ?_); rintro h0_8 _ l0_8 ⟨p0_8, q0_8, rfl, f0_8⟩; replace fg0_4 := fg0_4.up l0_8; replace fg0_2 := fg0_2.up l0_8; replace hB := hB.up l0_8; replace hs := hs.up l0_8; refine S_gq rfl rfl rfl rfl rfl rfl (Q_move rfl rfl) ?_; refine S_gc rfl rfl rfl rfl rfl rfl (C_call (refRoots_s ‹_› ‹_›) rfl rfl ⟨_, _, rfl, rfl, rfl⟩ (cal rfl) ?_); rintro h0_9 _ l0_9 ⟨p0_9, q0_9, rfl, f0_9, g0_9⟩; replace f0_8 := f0_8.up l0_9; replace fg0_4 := fg0_4.up l0_9; replace fg0_2 := fg0_2.up l0_9; replace hB := hB.up l0_9; replace hs := hs.up l0_9; refine S_gc rfl rfl rfl rfl rfl rfl (C_callv (sameIDs_s ‹_› ‹_›) rfl rfl ⟨_, _, rfl, ⟨_, _, rfl, rfl, rfl⟩, rfl⟩ (cal rfl) ?_); refine S_q rfl rfl rfl (Q_pick_t rfl rfl rfl) ?_; refine Sm rfl ?_; refine S_gsplit rfl rfl rfl rfl (fun c0_10 => ?_) (fun c0_10 => ?_) <;> (first | (simp [*] at c0_10; done) | (try simp at c0_10)); refine S_gq rfl rfl rfl rfl rfl rfl (Q_move rfl rfl) ?_; refine S_gc rfl rfl rfl rfl rfl rfl (C_call (reachable_s ‹_› ‹_›) rfl rfl ⟨_, _, rfl, rfl, rfl⟩ (cal rfl) ?_); rintro h0_11 _ l0_11 ⟨p0_11, q0_11, rfl, f0_11⟩; replace f0_9 := f0_9.up l0_11; replace f0_8 := f0_8.up l0_11; replace fg0_4 := fg0_4.up l0_11; replace fg0_2 := fg0_2.up l0_11; replace hB := hB.up l0_11; replace hs := hs.up l0_11; refine S_gq rfl rfl rfl rfl rfl rfl (Q_move rfl rfl) ?_; refine S_gc rfl rfl rfl rfl rfl rfl (C_call (refReachable_s ‹_› ‹_›) rfl rfl ⟨_, _, rfl, rfl, rfl⟩ (cal rfl) ?_); rintro h0_12 _ l0_12 ⟨p0_12, q0_12, rfl, f0_12⟩; replace f0_11 := f0_11.up l0_12; replace f0_9 := f0_9.up l0_12; replace f0_8 := f0_8.up l0_12; replace fg0_4 := fg0_4.up l0_12; replace fg0_2 := fg0_2.up l0_12; replace hB := hB.up l0_12; replace hs := hs.up l0_12; refine S_gc rfl rfl rfl rfl rfl rfl (C_callv (sameIDs_s ‹_› ‹_›) rfl rfl ⟨_, _, rfl, ⟨_, _, rfl, rfl, rfl⟩, rfl⟩ (cal rfl) ?_); refine S_q rfl rfl rfl (Q_pick_t rfl rfl rfl) ?_; refine Sm rfl ?_; refine On ?_; refine WP_ret ?_))
    refine pret (.inl rfl) rfl ⟨_, _, rfl, rfl, rfl⟩ ?_
    simp [resOf]
  · (focus (refine Wr ?_; refine Sm rfl ?_; refine On ?_; refine WP_seq ?_; refine Wr ?_; refine S_c rfl rfl rfl (C_callv (awake_s) rfl rfl rfl (cal rfl) ?_); refine S_q rfl rfl rfl (Q_not rfl rfl) ?_; refine On ?_; refine cond_f rfl ?_; refine WP_skip ?_; refine then_n ?_; refine WP_seq ?_; refine Wr ?_; refine Sm rfl ?_; refine S_c rfl rfl rfl (C_callv (few_s ‹_›) rfl rfl ⟨_, _, rfl, rfl, rfl⟩ (cal rfl) ?_); refine S_q rfl rfl rfl (Q_not rfl rfl) ?_; refine On ?_; refine WP_cond rfl (fun c1_1 => ?_) (fun c1_1 => ?_) <;> (first | (simp [*] at c1_1; done) | (try simp at c1_1)); refine Wr ?_; refine Sm rfl ?_; refine On ?_; refine WP_ret ?_; refine then_r ?_))
    refine pret (.inl rfl) rfl ⟨_, _, rfl, rfl, rfl⟩ ?_
    rfl
end Go.Proofs.YtfhoecgiahpddaaGreat
/-
  HOW THE DATA THAT A ROW SPEAKS OF ARE OPENED: from a value's reading to its cells, in the words of the logic.
-/
set_option linter.all false
namespace Go.Mesh
open Go.RowKit
set_option linter.unusedVariables false
section
variable {H : Type} {enc : TypeId × Value → H} {P : Program} {w : World} {t e : TypeId} {cs : List Value}
def TR (enc : TypeId × Value → H) (P : Program) (w : World) (t : TypeId) (cs : List Value) : Prop := ∃ fuel x, DataW.trod enc P w 0 (fun _ => true) true fuel t cs = some x
/-- the whole heap: nobody writes it -/
def hpOf (w : World) : Frag := fun b => w.heap[b]?
theorem Holds.all (w : World) : Holds (hpOf w) [] w := ⟨⟨fun _ _ e => e, by simp⟩, List.nodup_nil, by simp⟩
theorem TR.int {k : IntKind} (h : TR enc P w t cs) (ht : P.underlying t = some (.int k)) : ∃ n, cs = [.int k n] ∧ (Lit.int k n).wf = true := by
  obtain ⟨_, _, h⟩ := h
  obtain ⟨n, e, _, hw⟩ := DataW.trod_int ht h
  exact ⟨n, e, hw⟩
theorem TR.bool (h : TR enc P w t cs) (ht : P.underlying t = some .bool) : ∃ b, cs = [.bool b] := by
  obtain ⟨_, _, h⟩ := h
  obtain ⟨b, e, _⟩ := DataW.trod_bool ht h
  exact ⟨b, e⟩
theorem TR.str (h : TR enc P w t cs) (ht : P.underlying t = some .string) : ∃ s, cs = [.string s] := by
  obtain ⟨_, _, h⟩ := h
  obtain ⟨s, e, _⟩ := DataW.trod_string ht h
  exact ⟨s, e⟩
/-- the cells of fields that lie side by side -/
def Parts (Q : TypeId → List Value → Prop) : List TypeId → List Value → Prop
  | [], cs => cs = []
  | t :: ts, cs => ∃ a b, cs = a ++ b ∧ Q t a ∧ Parts Q ts b
def tilesB (P : Program) : List Field → Nat → Nat → Bool
  | [], cur, tot => Nat.beq cur tot
  | f :: fs, cur, tot => Nat.beq f.offset cur && tilesB P fs (cur + P.cellsOf f.type) tot
theorem tilesB_le : ∀ (l : List Field) (cur tot : Nat), tilesB P l cur tot = true → cur ≤ tot
  | [], cur, tot, h => Nat.le_of_eq (Nat.eq_of_beq_eq_true h)
  | f :: fs, cur, tot, h => by
    simp only [tilesB, Bool.and_eq_true] at h
    have := tilesB_le fs _ _ h.2
    omega
theorem parts_of {Q : TypeId → List Value → Prop} : ∀ (l : List Field) (cur : Nat), tilesB P l cur cs.length = true → (∀ f, f ∈ l → ((cs.drop f.offset).take (P.cellsOf f.type)).length = P.cellsOf f.type → Q f.type ((cs.drop f.offset).take (P.cellsOf f.type))) →
    Parts Q (l.map (·.type)) (cs.drop cur)
  | [], cur, h, _ => by
    have : cur = cs.length := Nat.eq_of_beq_eq_true h
    simp [Parts, this]
  | f :: fs, cur, h, hq => by
    simp only [tilesB, Bool.and_eq_true] at h
    obtain ⟨h1, h2⟩ := h
    have h1 := Nat.eq_of_beq_eq_true h1
    have hle := tilesB_le fs _ _ h2
    have ih := parts_of fs _ h2 fun g hg => hq g (List.mem_cons_of_mem _ hg)
    refine ⟨(cs.drop cur).take (P.cellsOf f.type), cs.drop (cur + P.cellsOf f.type), ?_, ?_, ih⟩
    · rw [← List.drop_drop, List.take_append_drop]
    · have := hq f (List.mem_cons_self ..)
      rw [h1] at this
      exact this (by rw [List.length_take, List.length_drop]; omega)
theorem TR.struct {fs : Array Field} {tys : List TypeId} (h : TR enc P w t cs) (ht : P.underlying t = some (.struct fs)) (hb : tilesB P fs.toList 0 (P.cellsOf t) = true) (hty : fs.toList.map (·.type) = tys) : cs.length = P.cellsOf t ∧ Parts (fun t a => a.length = P.cellsOf t ∧ TR enc P w t a) tys cs := by
  obtain ⟨_, _, h⟩ := h
  obtain ⟨xs, n, _, _, hl, hx, hf⟩ := DataW.trod_struct ht h
  subst hty
  refine ⟨hl, ?_⟩
  have := parts_of (P := P) (Q := fun t a => a.length = P.cellsOf t ∧ TR enc P w t a) (cs := cs) fs.toList 0 (by rw [hl]; exact hb) fun f hm hlen => ?_
  · simpa using this
  · obtain ⟨i, hi⟩ := List.getElem?_of_mem hm
    have hi' : fs[i]? = some f := by simpa using hi
    have := hf i f hi'
    have hlt : i < xs.length := by rw [hx]; exact (Array.getElem?_eq_some_iff.1 hi').1
    rw [List.getElem?_eq_getElem hlt] at this
    exact ⟨hlen, n, _, this⟩
theorem list_of {α : Type} {Q : Nat → α → Prop} : ∀ n, (∀ i, i < n → ∃ y, Q i y) → ∃ xs : List α, xs.length = n ∧ ∀ (i : Nat) y, xs[i]? = some y → Q i y
  | 0, _ => ⟨[], rfl, by simp⟩
  | n + 1, h => by
    obtain ⟨xs, hl, hx⟩ := list_of n fun i hi => h i (by omega)
    obtain ⟨y, hy⟩ := h n (by omega)
    refine ⟨xs ++ [y], by simp [hl], fun i z hz => ?_⟩
    rw [List.getElem?_append] at hz
    split at hz
    · exact hx i z hz
    · rename_i hge
      have hi : i - xs.length = 0 := by
        have := (List.getElem?_eq_some_iff.1 hz).1
        simp at this; omega
      rw [hi] at hz
      simp at hz
      subst hz
      have : i = n := by omega
      rw [this]; exact hy
theorem TR.slice {α : Type} {C : CR α} {k : Nat} (h : TR enc P w t cs) (ht : P.underlying t = some (.slice e)) (hk : P.cellsOf e = k) (h0 : 0 < k)
    (hel : ∀ cs, TR enc P w e cs → ∃ y, cs.length = k ∧ ones cs = true ∧ C (hpOf w) y cs) : ∃ p c, ∃ xs : List α, cs = [.slice p xs.length c] ∧ SLB 9223372036854775807 (hpOf w) k C (.slice p xs.length c) xs := by
  obtain ⟨_, _, h⟩ := h
  rcases DataW.trod_slice ht h with ⟨rfl, _⟩ | ⟨a, len, cap, elems, rest, n, _, rfl, _, _, hlc, hcm, hel2, hget, _⟩
  · exact ⟨none, 0, [], rfl, by simp, .inl ⟨none, 0, rfl, rfl⟩⟩
  · rw [hk] at hget
    by_cases hz : len = 0
    · subst hz
      exact ⟨some a, cap, [], rfl, by simp, .inl ⟨some a, cap, rfl, rfl⟩⟩
    have hcells : ∀ i, i < len → ∃ y, ∃ us : List Value, us.length = k ∧ ones us = true ∧ C (hpOf w) y us ∧ ∀ j, j < k → w.cell? ((a.add (i * k)).add j) = us[j]? := by
      intro i hi
      have hg := hget i hi
      rw [List.getElem?_eq_getElem (by rw [hel2]; exact hi)] at hg
      cases hc : w.cells? 0 (a.add (i * k)) k with
      | none => rw [hc] at hg; cases hg
      | some us =>
        rw [hc] at hg
        obtain ⟨y, hl, ho, hC⟩ := hel us ⟨n, _, hg⟩
        simp only [World.cells?, Nat.zero_le, if_true] at hc
        exact ⟨y, us, hl, ho, hC, fun j hj => mapM_some_get hc j j (by simp [hj])⟩
    obtain ⟨b, off, spot⟩ := a
    have hsp : spot = none := by
      obtain ⟨y, us, hl, _, _, hc⟩ := hcells 0 (by omega)
      have h00 := hc 0 h0
      rw [List.getElem?_eq_getElem (by omega)] at h00
      have hs := World.cell?_spot h00
      simpa [Addr.add] using hs
    subst hsp
    have hone : ∀ i, i < len → ∃ y, ∃ us : List Value, us.length = k ∧ ones us = true ∧ C (hpOf w) y us ∧ At (hpOf w) b (off + i * k) us := by
      intro i hi
      obtain ⟨y, us, hl, ho, hC, hc⟩ := hcells i hi
      refine ⟨y, us, hl, ho, hC, ?_⟩
      have h00 := hc 0 h0
      rw [List.getElem?_eq_getElem (by omega)] at h00
      simp only [addr_add, World.cell?] at hc h00
      cases hb : w.heap[b]? with
      | none => simp only [hb] at h00; cases h00
      | some ob =>
        simp only [hb] at h00 hc
        cases ob with
        | cells arr ty fz =>
          refine ⟨arr, ty, fz, hb, fun j v hv => ?_⟩
          have := hc j (by rw [← hl]; exact (List.getElem?_eq_some_iff.1 hv).1)
          simp only [Option.isSome_none, Bool.false_eq_true, if_false] at this
          rw [this]; exact hv
        | _ => cases h00
    obtain ⟨xs, hl, hx⟩ := list_of len hone
    refine ⟨some ⟨b, off, none⟩, cap, xs, by rw [hl], by rw [hl]; unfold maxLen at hcm; omega, ?_⟩
    exact .inr ⟨b, off, cap, rfl, fun i y hy => hx i y hy⟩
/-- types of which only the cells' form is asked -/
def flatB (P : Program) : Nat → TypeId → Bool
  | 0, _ => false
  | n + 1, t => match P.underlying t with
    | some (.struct fs) => tilesB P fs.toList 0 (P.cellsOf t) && fs.toList.all fun f => flatB P n f.type
    | some (.array ..) => false
    | some _ => true
    | none => false
theorem ones_parts {Q : TypeId → List Value → Prop} (hq : ∀ t a, Q t a → ones a = true) : ∀ (ts : List TypeId) (cs : List Value), Parts Q ts cs → ones cs = true
  | [], _, e => by cases e; rfl
  | t :: ts, _, ⟨a, b, e, h1, h2⟩ => by subst e; exact ones_append (hq t a h1) (ones_parts hq ts b h2)
theorem TR.ones : ∀ (n : Nat) {t : TypeId} {cs : List Value}, TR enc P w t cs → flatB P n t = true → Mesh.ones cs = true
  | 0, _, _, _, hf => by cases hf
  | n + 1, t, cs, h, hf => by
    unfold flatB at hf
    split at hf
    · rename_i fs hu
      rw [Bool.and_eq_true, List.all_eq_true] at hf
      obtain ⟨_, hp⟩ := TR.struct (tys := fs.toList.map (·.type)) h hu hf.1 rfl
      have hmem : ∀ (ts : List TypeId) (cs : List Value), (∀ t, t ∈ ts → flatB P n t = true) → Parts (fun t a => a.length = P.cellsOf t ∧ TR enc P w t a) ts cs → Mesh.ones cs = true := by
        intro ts
        induction ts with
        | nil => intro cs _ e; cases e; rfl
        | cons t ts ih =>
          rintro _ hall ⟨a, b, rfl, ⟨_, h1⟩, h2⟩
          exact ones_append (TR.ones n h1 (hall t (List.mem_cons_self ..))) (ih b (fun u hu => hall u (List.mem_cons_of_mem _ hu)) h2)
      refine hmem _ _ (fun t ht => ?_) hp
      obtain ⟨f, hfm, rfl⟩ := List.mem_map.1 ht
      exact hf.2 f hfm
    · cases hf
    · rename_i d hns hna hu
      obtain ⟨fuel, x, h⟩ := h
      cases fuel with
      | zero => simp [DataW.trod] at h
      | succ m =>
        unfold DataW.trod at h
        rw [hu] at h
        split at h <;> first | rfl | (cases h; done) | (exfalso; simp_all; done) | skip
    · cases hf
end
end Go.Mesh
/-
  THE PROGRAM's DATA, OPENED: identities, values, nodes, graphs, references, letters, flights, stubs, scions, views.
-/
set_option linter.all false
namespace Go.Proofs.YtfhoecgiahpddaaGreat
open Go.Mesh Go.RowKit
set_option linter.unusedVariables false
set_option maxRecDepth 100000
section
variable {H : Type} {enc : TypeId × Value → H} {w : World} {cs : List Value}
theorem len1 {a : List Value} {n : Nat} (h : a.length = n) (hn : n = 1) : ∃ x, a = [x] := by
  subst hn
  match a, h with
  | [x], _ => exact ⟨x, rfl⟩
theorem len2 {a : List Value} {n : Nat} (h : a.length = n) (hn : n = 2) : ∃ x y, a = [x, y] := by
  subst hn
  match a, h with
  | [x, y], _ => exact ⟨x, y, rfl⟩
theorem len5 {a : List Value} {n : Nat} (h : a.length = n) (hn : n = 5) : ∃ x1 x2 x3 x4 x5, a = [x1, x2, x3, x4, x5] := by
  subst hn
  match a, h with
  | [x1, x2, x3, x4, x5], _ => exact ⟨_, _, _, _, _, rfl⟩
theorem len7 {a : List Value} {n : Nat} (h : a.length = n) (hn : n = 7) : ∃ x1 x2 x3 x4 x5 x6 x7, a = [x1, x2, x3, x4, x5, x6, x7] := by
  subst hn
  match a, h with
  | [x1, x2, x3, x4, x5, x6, x7], _ => exact ⟨_, _, _, _, _, _, _, rfl⟩
theorem len8 {a : List Value} {n : Nat} (h : a.length = n) (hn : n = 8) : ∃ x1 x2 x3 x4 x5 x6 x7 x8, a = [x1, x2, x3, x4, x5, x6, x7, x8] := by
  subst hn
  match a, h with
  | [x1, x2, x3, x4, x5, x6, x7, x8], _ => exact ⟨_, _, _, _, _, _, _, _, rfl⟩
theorem id_of (h : TR enc Tryz.prog w 35 cs) : ∃ y : ID, cs = idc y := by
  obtain ⟨_, a, _, rfl, ⟨_, h1⟩, b, _, rfl, ⟨_, h2⟩, rfl⟩ := h.struct (tys := [3, 3]) Tryz.underlying35 (by kernel_rfl) rfl
  obtain ⟨x, rfl, _⟩ := h1.int Tryz.underlying3
  obtain ⟨y, rfl, _⟩ := h2.int Tryz.underlying3
  exact ⟨(x, y), rfl⟩
theorem val_of (h : TR enc Tryz.prog w 42 cs) : ∃ y : Val, cs.length = 4 ∧ ones cs = true ∧ ValC (hpOf w) y cs := by
  obtain ⟨_, a, _, rfl, ⟨_, h1⟩, b, _, rfl, ⟨_, h2⟩, c, _, rfl, ⟨_, h3⟩, rfl⟩ := h.struct (tys := [3, 2, 35]) Tryz.underlying42 (by kernel_rfl) rfl
  obtain ⟨x, rfl, _⟩ := h1.int Tryz.underlying3
  obtain ⟨y, rfl, _⟩ := h2.int Tryz.underlying2
  obtain ⟨z, rfl⟩ := id_of h3
  exact ⟨(x, y, z), rfl, rfl, rfl⟩
theorem idE_of (h : TR enc Tryz.prog w 35 cs) : ∃ y : ID, cs.length = 2 ∧ ones cs = true ∧ IDC (hpOf w) y cs := by
  obtain ⟨y, rfl⟩ := id_of h
  exact ⟨y, rfl, rfl, rfl⟩
theorem int_of (h : TR enc Tryz.prog w 3 cs) : ∃ y : Int, cs.length = 1 ∧ ones cs = true ∧ IntC (hpOf w) y cs := by
  obtain ⟨x, rfl, _⟩ := h.int Tryz.underlying3
  exact ⟨x, rfl, rfl, rfl⟩
theorem ref_of (h : TR enc Tryz.prog w 76 cs) : ∃ y : Ref, cs.length = 8 ∧ ones cs = true ∧ RefC (hpOf w) y cs := by
  obtain ⟨_, a, _, rfl, ⟨_, h1⟩, b, _, rfl, ⟨_, h2⟩, c, _, rfl, ⟨_, h3⟩, d, _, rfl, ⟨_, h4⟩, e, _, rfl, ⟨_, h5⟩, f, _, rfl, ⟨_, h6⟩, g, _, rfl, ⟨_, h7⟩, rfl⟩ := h.struct (tys := [3, 2, 3, 60, 35, 3, 4]) Tryz.underlying76 (by kernel_rfl) rfl
  obtain ⟨x1, rfl, _⟩ := h1.int Tryz.underlying3
  obtain ⟨x2, rfl, _⟩ := h2.int Tryz.underlying2
  obtain ⟨x3, rfl, _⟩ := h3.int Tryz.underlying3
  obtain ⟨x4, rfl, _⟩ := h4.int Tryz.underlying60
  obtain ⟨x5, rfl⟩ := id_of h5
  obtain ⟨x6, rfl, _⟩ := h6.int Tryz.underlying3
  obtain ⟨x7, rfl⟩ := h7.bool Tryz.underlying4
  exact ⟨⟨x1, x2, x3, x4, x5, x6, x7⟩, rfl, rfl, rfl⟩
theorem node_of (h : TR enc Tryz.prog w 38 cs) : ∃ y : Nd, cs.length = 5 ∧ ones cs = true ∧ NodeC 9223372036854775807 (hpOf w) y cs := by
  obtain ⟨_, a, _, rfl, ⟨_, h1⟩, b, _, rfl, ⟨_, h2⟩, c, _, rfl, ⟨_, h3⟩, d, _, rfl, ⟨_, h4⟩, rfl⟩ := h.struct (tys := [35, 3, 3, 36]) Tryz.underlying38 (by kernel_rfl) rfl
  obtain ⟨x1, rfl⟩ := id_of h1
  obtain ⟨x2, rfl, _⟩ := h2.int Tryz.underlying3
  obtain ⟨x3, rfl, _⟩ := h3.int Tryz.underlying3
  obtain ⟨p, c, xs, rfl, s⟩ := h4.slice (C := ValC) Tryz.underlying36 (by kernel_rfl) (by decide) fun _ => val_of
  exact ⟨⟨x1, x2, x3, xs⟩, rfl, rfl, p, c, rfl, s⟩
theorem graph_of (h : TR enc Tryz.prog w 27 cs) : ∃ y : List Nd, cs.length = 1 ∧ ones cs = true ∧ GraphC 9223372036854775807 (hpOf w) y cs := by
  obtain ⟨_, a, _, rfl, ⟨_, h1⟩, rfl⟩ := h.struct (tys := [25]) Tryz.underlying27 (by kernel_rfl) rfl
  obtain ⟨p, c, xs, rfl, s⟩ := h1.slice (C := NodeC 9223372036854775807) Tryz.underlying25 (by kernel_rfl) (by decide) fun _ => node_of
  exact ⟨xs, rfl, rfl, p, c, rfl, s⟩
theorem letter_of (h : TR enc Tryz.prog w 79 cs) : ∃ y : List Ref, cs.length = 4 ∧ ones cs = true ∧ LetterC 9223372036854775807 (hpOf w) y cs := by
  obtain ⟨_, a, _, rfl, ⟨_, h1⟩, b, _, rfl, ⟨_, h2⟩, c, _, rfl, ⟨_, h3⟩, rfl⟩ := h.struct (tys := [35, 9, 77]) Tryz.underlying79 (by kernel_rfl) rfl
  obtain ⟨x1, rfl⟩ := id_of h1
  obtain ⟨x2, rfl⟩ := h2.str Tryz.underlying9
  obtain ⟨p, c, xs, rfl, s⟩ := h3.slice (C := RefC) Tryz.underlying77 (by kernel_rfl) (by decide) fun _ => ref_of
  exact ⟨xs, rfl, rfl, _, _, _, p, c, rfl, s⟩
theorem stub_of (h : TR enc Tryz.prog w 63 cs) : ∃ y : StubE, cs.length = 12 ∧ ones cs = true ∧ StubC (hpOf w) y cs := by
  have ho := h.ones 5 (by kernel_rfl)
  obtain ⟨_, a, _, rfl, ⟨_, h1⟩, b, _, rfl, ⟨_, h2⟩, c, _, rfl, ⟨_, h3⟩, d, _, rfl, ⟨l4, h4⟩, e, _, rfl, ⟨l5, h5⟩, f, _, rfl, ⟨l6, h6⟩, g, _, rfl, ⟨l7, h7⟩, g8, _, rfl, ⟨_, h8⟩, g9, _, rfl, ⟨_, h9⟩, g10, _, rfl, ⟨l10, h10⟩, rfl⟩ := h.struct (tys := [3, 60, 35, 3, 3, 3, 4, 4, 4, 61]) Tryz.underlying63 (by kernel_rfl) rfl
  obtain ⟨x1, rfl, _⟩ := h1.int Tryz.underlying3
  obtain ⟨x2, rfl, _⟩ := h2.int Tryz.underlying60
  obtain ⟨x3, rfl⟩ := id_of h3
  obtain ⟨x4, rfl⟩ := len1 l4 (by kernel_rfl)
  obtain ⟨x5, rfl⟩ := len1 l5 (by kernel_rfl)
  obtain ⟨x6, rfl⟩ := len1 l6 (by kernel_rfl)
  obtain ⟨x7, rfl⟩ := len1 l7 (by kernel_rfl)
  obtain ⟨x8, rfl⟩ := h8.bool Tryz.underlying4
  obtain ⟨x9, rfl⟩ := h9.bool Tryz.underlying4
  obtain ⟨x10, x11, rfl⟩ := len2 l10 (by kernel_rfl)
  exact ⟨⟨x1, x2, x3, x8, x9⟩, rfl, ho, _, _, _, _, _, _, rfl⟩
theorem scion_of (h : TR enc Tryz.prog w 128 cs) : ∃ y : ScionE, cs.length = 12 ∧ ones cs = true ∧ ScionC (hpOf w) y cs := by
  have ho := h.ones 5 (by kernel_rfl)
  obtain ⟨_, a, _, rfl, ⟨_, h1⟩, b, _, rfl, ⟨_, h2⟩, c, _, rfl, ⟨_, h3⟩, d, _, rfl, ⟨l4, h4⟩, e, _, rfl, ⟨l5, h5⟩, f, _, rfl, ⟨l6, h6⟩, g, _, rfl, ⟨l7, h7⟩, g8, _, rfl, ⟨l8, h8⟩, g9, _, rfl, ⟨l9, h9⟩, g10, _, rfl, ⟨l10, h10⟩, rfl⟩ := h.struct (tys := [3, 60, 35, 3, 3, 3, 4, 4, 4, 61]) Tryz.underlying128 (by kernel_rfl) rfl
  obtain ⟨x1, rfl, _⟩ := h1.int Tryz.underlying3
  obtain ⟨x2, rfl, _⟩ := h2.int Tryz.underlying60
  obtain ⟨x3, rfl⟩ := id_of h3
  obtain ⟨x4, rfl⟩ := len1 l4 (by kernel_rfl)
  obtain ⟨x5, rfl⟩ := len1 l5 (by kernel_rfl)
  obtain ⟨x6, rfl⟩ := len1 l6 (by kernel_rfl)
  obtain ⟨x7, rfl⟩ := len1 l7 (by kernel_rfl)
  obtain ⟨x8, rfl⟩ := len1 l8 (by kernel_rfl)
  obtain ⟨x9, rfl⟩ := len1 l9 (by kernel_rfl)
  obtain ⟨x10, x11, rfl⟩ := len2 l10 (by kernel_rfl)
  exact ⟨⟨x1, x2, x3⟩, rfl, ho, _, _, _, _, _, _, _, _, rfl⟩
theorem named_of (h : TR enc Tryz.prog w 106 cs) : ∃ y : ID, cs.length = 3 ∧ ones cs = true ∧ NamedC (hpOf w) y cs := by
  obtain ⟨_, a, _, rfl, ⟨_, h1⟩, b, _, rfl, ⟨_, h2⟩, rfl⟩ := h.struct (tys := [9, 35]) Tryz.underlying106 (by kernel_rfl) rfl
  obtain ⟨x1, rfl⟩ := h1.str Tryz.underlying9
  obtain ⟨x2, rfl⟩ := id_of h2
  exact ⟨x2, rfl, rfl, _, rfl⟩
theorem mail_of (h : TR enc Tryz.prog w 74 cs) : ∃ y : MailE, cs.length = 6 ∧ ones cs = true ∧ MailC 9223372036854775807 (hpOf w) y cs := by
  obtain ⟨_, a, _, rfl, ⟨_, h1⟩, b, _, rfl, ⟨_, h2⟩, c, _, rfl, ⟨_, h3⟩, d, _, rfl, ⟨_, h4⟩, rfl⟩ := h.struct (tys := [35, 35, 9, 36]) Tryz.underlying74 (by kernel_rfl) rfl
  obtain ⟨x1, rfl⟩ := id_of h1
  obtain ⟨x2, rfl⟩ := id_of h2
  obtain ⟨x3, rfl⟩ := h3.str Tryz.underlying9
  obtain ⟨p, c, xs, rfl, s⟩ := h4.slice (C := ValC) Tryz.underlying36 (by kernel_rfl) (by decide) fun _ => val_of
  exact ⟨⟨x2, xs⟩, rfl, rfl, _, _, _, p, c, rfl, s⟩
theorem flight_of (h : TR enc Tryz.prog w 93 cs) : ∃ y : Flight, cs.length = 41 ∧ ones cs = true ∧ FlightC 9223372036854775807 (hpOf w) y cs := by
  have ho := h.ones 9 (by kernel_rfl)
  obtain ⟨_, a, _, rfl, ⟨_, h1⟩, b, _, rfl, ⟨_, h2⟩, c, _, rfl, ⟨_, hm⟩, rfl⟩ := h.struct (tys := [3, 3, 91]) Tryz.underlying93 (by kernel_rfl) rfl
  obtain ⟨_, a, _, rfl, ⟨_, m1⟩, b, _, rfl, ⟨_, m2⟩, c, _, rfl, ⟨l3, m3⟩, d, _, rfl, ⟨l4, m4⟩, e, _, rfl, ⟨_, m5⟩, f, _, rfl, ⟨_, m6⟩, g, _, rfl, ⟨_, m7⟩, g8, _, rfl, ⟨l8, m8⟩, g9, _, rfl, ⟨l9, m9⟩, g10, _, rfl, ⟨l10, m10⟩, rfl⟩ := hm.struct (tys := [3, 60, 3, 9, 76, 79, 83, 61, 86, 89]) Tryz.underlying91 (by kernel_rfl) rfl
  obtain ⟨_, a, _, rfl, ⟨_, p1⟩, b, _, rfl, ⟨_, p2⟩, c, _, rfl, ⟨_, p3⟩, d, _, rfl, ⟨_, p4⟩, e, _, rfl, ⟨_, p5⟩, f, _, rfl, ⟨_, p6⟩, g, _, rfl, ⟨lw, p7⟩, rfl⟩ := m7.struct (tys := [60, 35, 3, 3, 77, 80, 81]) Tryz.underlying83 (by kernel_rfl) rfl
  obtain ⟨to, rfl, _⟩ := h1.int Tryz.underlying3
  obtain ⟨seq, rfl, _⟩ := h2.int Tryz.underlying3
  obtain ⟨kd, rfl, _⟩ := m1.int Tryz.underlying3
  obtain ⟨nu, rfl, _⟩ := m2.int Tryz.underlying60
  obtain ⟨a1, rfl⟩ := len1 l3 (by kernel_rfl)
  obtain ⟨a2, rfl⟩ := len1 l4 (by kernel_rfl)
  obtain ⟨rf, _, _, hr⟩ := ref_of m5
  cases hr
  obtain ⟨lt, _, _, b1, b2, b3, pa, qa, rfl, sa⟩ := letter_of m6
  obtain ⟨pn, rfl, _⟩ := p1.int Tryz.underlying60
  obtain ⟨pi, rfl⟩ := id_of p2
  obtain ⟨pk, rfl, _⟩ := p3.int Tryz.underlying3
  obtain ⟨pc, rfl, _⟩ := p4.int Tryz.underlying3
  obtain ⟨pf, qf, fs, rfl, sf⟩ := p5.slice (C := RefC) Tryz.underlying77 (by kernel_rfl) (by decide) fun _ => ref_of
  obtain ⟨pm, qm, ms, rfl, sm⟩ := p6.slice (C := LetterC 9223372036854775807) Tryz.underlying80 (by kernel_rfl) (by decide) fun _ => letter_of
  obtain ⟨wv, rfl⟩ := len1 lw (by kernel_rfl)
  obtain ⟨y1, y2, rfl⟩ := len2 l8 (by kernel_rfl)
  obtain ⟨y3, y4, y5, y6, y7, y8, y9, y10, rfl⟩ := len8 l9 (by kernel_rfl)
  obtain ⟨z1, z2, z3, z4, z5, rfl⟩ := len5 l10 (by kernel_rfl)
  exact ⟨⟨to, seq, ⟨kd, nu, rf, lt, ⟨pn, pi, pk, pc, fs, ms⟩⟩⟩, rfl, ho, a1, a2, b1, b2, b3, pa, qa, pf, qf, pm, qm, wv, y1, y2, y3, y4, y5, y6, y7, y8, y9, y10, z1, z2, z3, z4, z5, rfl, sa, sf, sm⟩
theorem wf_i64 {n : Int} (h : (Lit.int .i64 n).wf = true) : inI64 n := by
  simp [Lit.wf, IntKind.min, IntKind.max, IntKind.signed, IntKind.bits] at h
  unfold inI64; omega
theorem view_of (h : TR enc Tryz.prog w 57 cs) : ∃ y : View, cs.length = 13 ∧ ones cs = true ∧ ViewC 9223372036854775807 (hpOf w) y cs := by
  have ho := h.ones 12 (by kernel_rfl)
  obtain ⟨_, a, _, rfl, ⟨_, h1⟩, b, _, rfl, ⟨l2, h2⟩, c, _, rfl, ⟨_, h3⟩, d, _, rfl, ⟨_, h4⟩, e, _, rfl, ⟨_, h5⟩, f, _, rfl, ⟨_, h6⟩, g, _, rfl, ⟨_, h7⟩, g8, _, rfl, ⟨l8, h8⟩, g9, _, rfl, ⟨l9, h9⟩, g10, _, rfl, ⟨_, h10⟩, g11, _, rfl, ⟨_, h11⟩, g12, _, rfl, ⟨l12, h12⟩, g13, _, rfl, ⟨l13, h13⟩, rfl⟩ :=
    h.struct (tys := [3, 3, 27, 50, 51, 52, 53, 54, 31, 55, 46, 3, 3]) Tryz.underlying57 (by kernel_rfl) rfl
  obtain ⟨m, rfl, hw⟩ := h1.int Tryz.underlying3
  obtain ⟨md, rfl⟩ := len1 l2 (by kernel_rfl)
  obtain ⟨g, _, _, po, co, rfl, s1⟩ := graph_of h3
  obtain ⟨ps, qs, st, rfl, s2⟩ := h4.slice (C := StubC) Tryz.underlying50 (by kernel_rfl) (by decide) fun _ => stub_of
  obtain ⟨pc, qc, sc, rfl, s3⟩ := h5.slice (C := ScionC) Tryz.underlying51 (by kernel_rfl) (by decide) fun _ => scion_of
  obtain ⟨pn, qn, nm, rfl, s4⟩ := h6.slice (C := NamedC) Tryz.underlying52 (by kernel_rfl) (by decide) fun _ => named_of
  obtain ⟨pm, qm, ml, rfl, s5⟩ := h7.slice (C := MailC 9223372036854775807) Tryz.underlying53 (by kernel_rfl) (by decide) fun _ => mail_of
  obtain ⟨w1, rfl⟩ := len1 l8 (by kernel_rfl)
  obtain ⟨w2, rfl⟩ := len1 l9 (by kernel_rfl)
  obtain ⟨pf, qf, fl, rfl, s6⟩ := h10.slice (C := FlightC 9223372036854775807) Tryz.underlying55 (by kernel_rfl) (by decide) fun _ => flight_of
  obtain ⟨pr, qr, rv, rfl, s7⟩ := h11.slice (C := IntC) Tryz.underlying46 (by kernel_rfl) (by decide) fun _ => int_of
  obtain ⟨e1, rfl⟩ := len1 l12 (by kernel_rfl)
  obtain ⟨e2, rfl⟩ := len1 l13 (by kernel_rfl)
  exact ⟨⟨m, g, st, sc, nm, ml, fl, rv⟩, rfl, ho, wf_i64 hw, md, po, co, ps, qs, pc, qc, pn, qn, pm, qm, w1, w2, pf, qf, pr, qr, e1, e2, rfl, s1, s2, s3, s4, s5, s6, s7⟩
/-- an identity -/
theorem idv_of {v : Value} {d : DataW H} {ps : List MemPlace} {r : Go.Reach} {b0 : Nat} (hval : Value.okWide Tryz.prog w r b0 35 v) (h : DataW.Trod enc Tryz.prog w 0 (fun _ => true) true 35 v d ps) : ∃ id : ID, v = .agg (idc id).toArray := by
  obtain ⟨cs, rfl, _⟩ := Go.WideShapes.okWide_struct Tryz.underlying35 hval
  obtain ⟨fuel, hf⟩ := h
  have ht : TR enc Tryz.prog w 35 cs.toList := ⟨fuel, _, hf⟩
  obtain ⟨y, hy⟩ := id_of ht
  exact ⟨y, by rw [← hy]⟩
/-- the argument of the laws -/
theorem views_of {v : Value} {d : DataW H} {ps : List MemPlace} {r : Go.Reach} {b0 : Nat} (hval : Value.okWide Tryz.prog w r b0 22 v) (h : DataW.Trod enc Tryz.prog w 0 (fun _ => true) true 22 v d ps) : ∃ vs : List View, SLB 9223372036854775807 (hpOf w) 13 (ViewC 9223372036854775807) v vs := by
  obtain ⟨a, len, cap, rfl⟩ := Go.WideShapes.okWide_slice Tryz.underlying22 hval
  obtain ⟨fuel, hf⟩ := h
  have ht : TR enc Tryz.prog w 22 [.slice a len cap] := ⟨fuel, _, hf⟩
  obtain ⟨p, c, xs, e, s⟩ := ht.slice (C := ViewC 9223372036854775807) Tryz.underlying22 (by kernel_rfl) (by decide) fun _ => view_of
  cases e
  exact ⟨xs, s⟩
end
end Go.Proofs.YtfhoecgiahpddaaGreat
/-
  FROM A CONTRACT TO A ROW's STEP: what was in memory is as it was; the arguments read as they did.
-/
set_option linter.all false
namespace Go.Mesh
open Go.RowKit
section
variable {H : Type} {enc : TypeId × Value → H} {P : Program} {W W' : World}
/-- the old blocks are as they were -/
structure Same (W W' : World) : Prop where
  os : W'.os = W.os
  output : W'.output = W.output
  block : ∀ b, b < W.heap.size → W'.heap[b]? = W.heap[b]?
theorem Same.kept (x : Same W W') (may : MemPlace → Prop) : W.keptBut W' may := by
  refine ⟨x.os, x.output, fun i hi => ?_⟩
  have hk := (World.keptBut_refl W may).2.2 i hi
  rw [x.block i hi]
  exact hk
theorem Same.at (x : Same W W') {p : MemPlace} (hp : p.block < W.heap.size) : W.sameAt W' p := by
  cases p with
  | cell b off => simp only [World.sameAt, World.cell?]; rw [x.block b hp]
  | map b => exact x.block b hp
theorem TrodAll_same (hl : laidOutB P = true) (x : Same W W') {sp : Nat → Bool} : ∀ (ts : List TypeId) (vs : List Value) (ds : List (DataW H)) (ps : List MemPlace), (∀ t, t ∈ ts → P.readableRec t = true ∧ t < P.types.size) →
    DataW.TrodAll enc P W 0 (fun _ => true) true ts vs ds ps → (∀ p, p ∈ ps → p.block < W.heap.size) → (∀ p, p ∈ ps → sp p.block = true) → DataW.TrodAll enc P W' 0 sp true ts vs ds ps
  | [], [], [], ps, _, h, _, _ => h
  | t :: ts, v :: vs, d :: ds, ps, hr, h, hlt, hs => by
    obtain ⟨p, q, h1, h2, rfl⟩ := h
    obtain ⟨hr1, hr2⟩ := hr t (List.mem_cons_self ..)
    refine ⟨p, q, WideElems.Trod_stays hl hr1 hr2 h1 (fun y hy => x.at (hlt y (List.mem_append_left _ hy))) (fun y hy => hs y (List.mem_append_left _ hy)), ?_, rfl⟩
    exact TrodAll_same hl x ts vs ds q (fun u hu => hr u (List.mem_cons_of_mem _ hu)) h2 (fun y hy => hlt y (List.mem_append_right _ hy)) (fun y hy => hs y (List.mem_append_right _ hy))
theorem calls_of_pspec {f : FuncId} {args : Array Value} {v : Value} (x : PSpec P f args (hpOf W) (fun _ u => u = v)) : Calls P f args W fun e W' => e = .returned v ∧ Same W W' := by
  refine (x W (Holds.all W)).mono ?_
  rintro e W' ⟨u, h', L', rfl, ⟨_, rfl⟩, y⟩
  exact ⟨rfl, y.os, y.output, fun b hb => y.frame b hb (by simp [ids])⟩
/-- what a law that returns true leaves -/
theorem law_post {f : Func} {s : ChangeSpec} {args : Array Value} {ds gs : List (DataW H)} {before : List MemPlace} (hl : laidOutB P = true) (hr : ∀ t, t ∈ f.params.toList → P.readableRec t = true ∧ t < P.types.size)
    (hvars : s.vars = []) (hW : DataW.Whole enc P f.params.toList s.vars false W args.toList ds gs before) (hfn : (s.fn H (ds ++ gs)).results = [.lit (.bool true)] ∧ (s.fn H (ds ++ gs)).args = ds ∧ (s.fn H (ds ++ gs)).vars = []) (hb : P.underlying 4 = some .bool) (hres : f.resultTypes = #[4])
    (x : Same W W') : s.post enc P f false true false false W args (.bool true) W' := by
  have hlt := fun p hp => hW.lt p hp
  obtain ⟨h1, h2, h3⟩ := hfn
  have hW' := hW
  obtain ⟨p, q, hA, hV, rfl, hfz, hnd⟩ := hW
  have hq : q = [] := by
    rw [hvars] at hV
    cases gs with
    | nil => exact hV
    | cons g gs => exact hV.elim
  subst hq
  refine ⟨ds, gs, p ++ [], [], p, [], hW', ?_, ?_, ?_, x.kept _, fun h => by cases h⟩
  · rw [h1, hres]
    exact trodAll_cons_mk (p' := []) (shut_bool hb true) rfl
  · rw [h2]
    exact TrodAll_same hl x _ _ _ _ hr hA (fun y hy => hlt y (by simpa using hy)) (fun y hy => by simpa using hlt y (by simpa using hy))
  · rw [h3, hvars]; rfl
end
end Go.Mesh
/- For every list of views: ObserverGraphs returns true and leaves its argument as it was. No condition. -/
set_option linter.all false
namespace Go.Proofs.YtfhoecgiahpddaaGreat
open Go.Mesh Go.RowKit Go.ChangeShapes Go.WideShapes Go.ChangeAt
set_option linter.unusedVariables false
theorem graphs_own : ownKnob Tryz.prog.godebug = none := by kernel_rfl
theorem graphs_laid : laidOutB Tryz.prog = true := by kernel_rfl
set_option maxRecDepth 100000 in
theorem graphs_lifted (os : Os) (started : os.Started) (H : Type) (enc : TypeId × Value → H) :
    ReturnsInHanded {} Tryz.checked os 4 .any (Rows.observerGraphsSpec.pre6 enc Tryz.prog Tryz.f4 Rows.observerGraphsRow.domain false) (Rows.observerGraphsSpec.post enc Tryz.prog Tryz.f4 false true false false) := by
  refine returnsInHanded_of_change (C := Tryz.checked) graphs_own started (by kernel_rfl) Tryz.func4
    (ChangeSpec.witness6 (enc := enc) (C := Tryz.checked) false ⟨#[], #[.slice none 0 0], []⟩ 8 (by kernel_rfl) (by kernel_rfl) (by kernel_rfl) (by kernel_rfl)) ?_
  intro W base args ds gs before hval0 hW hcnd _
  have hval : ∀ (j : Nat) t v, Tryz.f4.params[j]? = some t → args[j]? = some v → Value.okWide Tryz.prog W .any base t v := hval0
  have hW' := hW
  obtain ⟨p, q, hA0, hV, rfl, hfz, hnd⟩ := hW
  have hA : DataW.TrodAll enc Tryz.prog W 0 (fun _ => true) true Tryz.f4.params.toList args.toList ds p := hA0
  rw [Tryz.params4] at hA hval
  obtain ⟨v0, vs0, d0, ds0, p0, q0, hargs, rfl, rfl, h0, r0⟩ := trodAll_cons hA
  obtain ⟨rfl, rfl, rfl⟩ := trodAll_nil r0
  obtain rfl : args = #[v0] := by cases args; simp_all
  obtain ⟨rfl, rfl⟩ := trodVars_none hV
  obtain ⟨vs, hs⟩ := views_of (hval 0 22 v0 rfl rfl) h0
  refine (calls_of_pspec (graphs_s hs)).mono fun e W' ⟨he, hg⟩ => ?_
  subst he
  refine ⟨_, rfl, law_post graphs_laid ?_ rfl hW' ⟨rfl, rfl, rfl⟩ Tryz.underlying4 (by kernel_rfl) hg⟩
  rw [Tryz.params4]
  intro t ht
  have : t = 22 := by simpa using ht
  subst this
  exact ⟨by kernel_rfl, of_decide_eq_true (by kernel_rfl)⟩
theorem graphs_over : Rows.observerGraphsRow.holds Tryz.pinned (OpenSpec.ofChange Rows.observerGraphsSpec) :=
  OpenClaim.holds_of_wide 4 Tryz.f4 rfl rfl rfl rfl rfl rfl rfl ⟨rfl, rfl, rfl, rfl, rfl⟩ rfl rfl rfl rfl rfl (by kernel_rfl) Tryz.func4 (by kernel_rfl)
    (of_decide_eq_true (by kernel_rfl)) (by unfold Func.isWrapper; first | (rw [if_pos (by decide +kernel)]; kernel_rfl) | (rw [if_neg (by decide +kernel)]; exact ⟨rfl, rfl⟩))
    (fun os started H enc _ => graphs_lifted os started H enc)
theorem observerGraphs_holds : Rows.ObserverGraphsSaid := graphs_over
#print axioms observerGraphs_holds
end Go.Proofs.YtfhoecgiahpddaaGreat
