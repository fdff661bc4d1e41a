/-
  CONTRACTS: slices of identities copied, sorted, made compact; sets.
-/
import Derived.Test.YtfhoecgiahpddaaGreatRules5
set_option linter.all false
namespace Go.Proofs.YtfhoecgiahpddaaGreat
open Go.Mesh Go.RowKit
set_option maxRecDepth 100000
set_option linter.unusedVariables false
set_option maxHeartbeats 4000000
attribute [local irreducible] WP OPS ANY ANYo LG LV FSpec PSpec QOP OPc OPw thenQ blockQ roundQ roundF retQ retM Rd At SLB OS cmpI orI cmpID namedB valB nodeB kindB validG valAux idxI findG zeroV viewOf vwAt idxOf recv flyB scionOf moveOf numberedOf idOf valueOf mget mput localB carriedB stubOf followF followOf flOf flightsOf flPre
theorem cloneID_s {h : Frag} {a : Value} {xs : List ID} (hx : SL h 2 IDC a xs) : FSpec Tryz.prog 83 #[a] h [] (fun h' L' v => ∃ p c, v = .slice p xs.length c ∧ OS h' 35 2 IDC (.slice p xs.length c) xs L') := by
  have hxl := hx.le
  obtain ⟨p, cap, rfl⟩ := hx.slice
  refine spec_of (vs := [.slice p xs.length cap]) Tryz.func83 Tryz.ntmps83 rfl rfl rfl ?_
  (focus (refine WP_seq ?_; refine R_region ?_; refine S_q rfl rfl rfl (Q_assign rfl rfl) ?_; refine OPS_nil ?_; refine then_n ?_; refine WP_seq ?_; refine WP_seq ?_; refine R_region ?_; refine S_q rfl rfl rfl (Q_move rfl rfl) ?_; refine S_q rfl rfl rfl (Q_eqNil rfl rfl rfl rfl) ?_; refine OPS_nil ?_; refine then_n ?_; refine WP_cond rfl (fun c0_1 => ?_) (fun c0_1 => ?_) <;> (first | (simp [*] at c0_1; done) | (try simp at c0_1)); (focus (refine WP_seq ?_; refine R_region ?_; refine S_q rfl rfl rfl (Q_assign rfl rfl) ?_; refine OPS_nil ?_; refine then_n ?_; refine WP_ret ?_; refine then_r ?_)); rotate_left 1; (focus (refine WP_skip ?_; refine then_n ?_; refine WP_seq ?_; refine R_region ?_; refine S_c rfl rfl rfl (C_buildSlice rfl (elm rfl) (zer rfl) rfl rfl rfl rfl ?_); intro b0_2; refine S_q rfl rfl rfl (Q_move rfl rfl) ?_; refine S_w rfl rfl rfl (W_appS [] _ (OS.lit0 _ _ _ _ _) (by assumption) rfl rfl rfl rfl rfl rfl (elm rfl) (zer rfl) rfl rfl (by (try simp only [List.length_append, List.length_cons, List.length_nil]); omega) (by (try simp only [List.length_append, List.length_cons, List.length_nil]); omega) ?_); rintro p0_3 q0_3 m0_3 o0_3; refine S_q rfl rfl rfl (Q_assign rfl rfl) ?_; refine OPS_nil ?_; refine then_n ?_; refine WP_ret ?_)); rotate_left 1))
  · subst c0_1
    have hn : xs = [] := hx.none_nil
    subst hn
    exact ret_q [] (.inl rfl) rfl ⟨_, _, rfl, rfl, rfl⟩ (List.Sublist.refl _) ⟨_, _, rfl, OS.nil _ _ _ _⟩
  · exact ret_q m0_3 (.inl rfl) rfl ⟨_, _, rfl, rfl, rfl⟩ (by repeat' (first | exact List.Sublist.refl _ | exact List.sublist_append_left _ _ | exact List.nil_sublist _ | apply List.Sublist.cons₂ | apply List.Sublist.cons)) ⟨_, _, rfl, o0_3⟩
def compactL : List ID → List ID
  | [] => []
  | [x] => [x]
  | x :: y :: r => if x = y then compactL (y :: r) else x :: compactL (y :: r)
theorem compactL_drop {xs : List ID} {k : Nat} {x y : ID} (hx : xs[k]? = some x) (hy : xs[k + 1]? = some y) : compactL (xs.drop k) = if x = y then compactL (xs.drop (k + 1)) else x :: compactL (xs.drop (k + 1)) := by
  rw [drop_get hx, drop_get hy, compactL]
theorem compact_s {h : Frag} {v : Value} {xs : List ID} {M : Hp} (hs : OS h 35 2 IDC v xs M) (hxl : xs.length ≤ 4398046511104) : FSpec Tryz.prog 91 #[v] h M (fun h' L' u => h' = h ∧ ∃ p c, u = .slice p (compactL xs).length c ∧ OS h' 35 2 IDC (.slice p (compactL xs).length c) (compactL xs) L') := by
  obtain ⟨p, c, rfl⟩ := hs.slice
  by_cases hsm : xs.length < 2
  · refine spec_of (vs := [.slice p xs.length c]) Tryz.func91 Tryz.ntmps91 rfl rfl rfl ?_
    (focus (refine WP_seq ?_; refine R_region ?_; refine S_q rfl rfl rfl (Q_assign rfl rfl) ?_; refine OPS_nil ?_; refine then_n ?_; refine WP_seq ?_; refine WP_seq ?_; refine R_region ?_; refine S_q rfl rfl rfl (Q_move rfl rfl) ?_; refine S_q rfl rfl rfl (Q_len rfl rfl rfl rfl rfl rfl) ?_; refine S_q rfl rfl rfl (Q_cmp rfl rfl rfl rfl) ?_; refine OPS_nil ?_; refine then_n ?_; refine WP_cond rfl (fun c0_1 => ?_) (fun c0_1 => ?_) <;> (first | (simp [*] at c0_1; done) | (try simp at c0_1)); (focus (refine WP_seq ?_; refine R_region ?_; refine S_q rfl rfl rfl (Q_move rfl rfl) ?_; refine S_q rfl rfl rfl (Q_assign rfl rfl) ?_; refine OPS_nil ?_; refine then_n ?_; refine WP_ret ?_; refine then_r ?_)); rotate_left 1; (focus (exfalso; omega))))
    have hc : compactL xs = xs := by
      match xs, hsm with
      | [], _ => rfl
      | [_], _ => rfl
    rw [hc]
    exact ret_q M (.inl rfl) rfl ⟨_, _, rfl, rfl, rfl⟩ (List.Sublist.refl _) ⟨rfl, _, _, rfl, hs⟩
  obtain ⟨b, cap, rest, e, rfl, hcap, hrl⟩ := hs.parts (by omega)
  cases e
  refine spec_of (vs := [.slice (some ⟨b, 0, none⟩) xs.length c]) Tryz.func91 Tryz.ntmps91 rfl rfl rfl ?_
  (focus (refine WP_seq ?_; refine R_region ?_; refine S_q rfl rfl rfl (Q_assign rfl rfl) ?_; refine OPS_nil ?_; refine then_n ?_; refine WP_seq ?_; refine WP_seq ?_; refine R_region ?_; refine S_q rfl rfl rfl (Q_move rfl rfl) ?_; refine S_q rfl rfl rfl (Q_len rfl rfl rfl rfl rfl rfl) ?_; refine S_q rfl rfl rfl (Q_cmp rfl rfl rfl rfl) ?_; refine OPS_nil ?_; refine then_n ?_; refine WP_cond rfl (fun c1_1 => ?_) (fun c1_1 => ?_) <;> (first | (simp [*] at c1_1; done) | (try simp at c1_1)); (focus (exfalso; omega)); (focus (refine WP_skip ?_; refine then_n ?_; refine WP_seq ?_; refine WP_seq ?_; refine R_region ?_; refine S_q rfl rfl rfl (Q_assign rfl rfl) ?_; refine OPS_nil ?_; refine then_n ?_; refine WP_block ?_)); rotate_left 1))
  (refine WP_loopC (α := Nat) [0] (fun (q : Nat) => xs.length - q) (fun (q : Nat) => [(3, .int .i64 ((q + 1 : Nat) : Int))]) (fun hh (q : Nat) => hh = h ∧ q + 1 ≤ xs.length ∧ compactL xs = xs.take q ++ compactL (xs.drop q)) 0 ⟨_, _, rfl, rfl, rfl⟩ (by repeat' (first | exact trivial | refine ⟨rfl, ?_⟩)) ?_ ?_)
  · exact ⟨rfl, by omega, rfl⟩
  rintro h1 q _ ⟨rfl, hq, hcq⟩
  by_cases hlt : q + 1 < xs.length
  · obtain ⟨⟨x1, x2⟩, ex⟩ := get_of hlt
    obtain ⟨⟨y1, y2⟩, ey⟩ := get_of (xs := xs) (k := q) (by omega)
    have hcd := compactL_drop ey ex
    (focus (refine WP_seq ?_; refine WP_seq ?_; refine R_region ?_; refine S_q rfl rfl rfl (Q_move rfl rfl) ?_; refine S_q rfl rfl rfl (Q_move rfl rfl) ?_; refine S_q rfl rfl rfl (Q_len rfl rfl rfl rfl rfl rfl) ?_; refine S_q rfl rfl rfl (Q_cmp rfl rfl rfl rfl) ?_; refine OPS_nil ?_; refine then_n ?_; refine WP_cond rfl (fun c3_1 => ?_) (fun c3_1 => ?_) <;> (first | (simp [*] at c3_1; done) | (try simp at c3_1)); (focus (refine WP_skip ?_; refine then_n ?_; refine WP_seq ?_; refine WP_block ?_; refine WP_seq ?_; refine R_draw (n := 10) mixed rfl ?_; refine A_at 0 rfl rfl ?_; refine A_q (m' := 1) rfl rfl rfl (Q_move rfl rfl) rfl (by decide +kernel) ?_; refine A_at 1 rfl rfl ?_; refine A_q (m' := 3) rfl rfl rfl (Q_move rfl rfl) rfl (by decide +kernel) ?_; refine A_at 2 rfl rfl ?_; refine A_q (m' := 7) rfl rfl rfl (Q_indexX ex rfl rfl rfl (elm rfl) (by omega) (by omega)) rfl (by decide +kernel) ?_; refine A_at 3 rfl rfl ?_; refine A_load (m' := 15) rfl rfl rfl rfl rfl rfl (by decide +kernel) ?_; refine L_id0 m0 (by assumption) (ty rfl) ?_; refine A_at 4 rfl rfl ?_; refine A_q (m' := 31) rfl rfl rfl (Q_move rfl rfl) rfl (by decide +kernel) ?_; refine A_at 5 rfl rfl ?_; refine A_q (m' := 63) rfl rfl rfl (Q_move rfl rfl) rfl (by decide +kernel) ?_; refine A_at 6 rfl rfl ?_; refine A_q (m' := 127) rfl rfl rfl (Q_sub rfl rfl rfl (by omega)) rfl (by decide +kernel) ?_; refine A_at 7 rfl rfl ?_; refine A_q (m' := 255) rfl rfl rfl (Q_indexX ey rfl rfl rfl (elm rfl) (by omega) (by omega)) rfl (by decide +kernel) ?_; refine A_at 8 rfl rfl ?_; refine A_load (m' := 511) rfl rfl rfl rfl rfl rfl (by decide +kernel) ?_; refine L_id0 m0 (by assumption) (ty rfl) ?_; refine A_at 9 rfl rfl ?_; refine A_q (m' := 1023) rfl rfl rfl (Q_eqI eqID rfl rfl rfl rfl rfl) rfl (by decide +kernel) ?_; refine A_done (by decide +kernel) ?_; refine then_n ?_; refine WP_cond rfl (fun c3_2 => ?_) (fun c3_2 => ?_) <;> (first | (simp [*] at c3_2; done) | (try simp at c3_2)); (focus (refine WP_seq ?_; refine R_region ?_; refine S_q rfl rfl rfl (Q_move rfl rfl) ?_; refine S_q rfl rfl rfl (Q_move rfl rfl) ?_; refine S_q rfl rfl rfl (Q_slice rfl rfl (elm rfl) ⟨_, rfl⟩ rfl (by omega) (by omega) (by omega)) ?_; refine S_q rfl rfl rfl (Q_assign rfl rfl) ?_; refine OPS_nil ?_; refine then_n ?_; refine WP_seq ?_; refine WP_seq ?_; refine R_region ?_; refine S_q rfl rfl rfl (Q_assign rfl rfl) ?_; refine OPS_nil ?_; refine then_n ?_; refine WP_block ?_)); rotate_left 1; (focus (refine WP_skip ?_; refine block_n ?_; refine then_n ?_; refine R_region ?_; refine S_q rfl rfl rfl (Q_move rfl rfl) ?_; refine S_q rfl rfl rfl (Q_add rfl rfl rfl (by omega)) ?_; refine S_q rfl rfl rfl (Q_assign rfl rfl) ?_; refine OPS_nil ?_)); rotate_left 1)); rotate_left 2; (focus (exfalso; omega))))
    · obtain ⟨rfl, rfl⟩ := c3_2
      rw [if_pos rfl] at hcd
      rw [hcd] at hcq
      clear hs hcd
      (refine WP_loopF (α := Nat × Nat × List ID) [4, 0] (fun (s : Nat × Nat × List ID) => xs.length - s.1) (fun (s : Nat × Nat × List ID) => [(b, cells (flatI s.2.2 ++ rest) 35)]) (fun (s : Nat × Nat × List ID) => [(5, .int .i64 ((s.1 + 1 : Nat) : Int)), (3, .int .i64 ((s.2.1 + 1 : Nat) : Int))]) (fun hh (s : Nat × Nat × List ID) => hh = h1 ∧ s.2.2.length = xs.length ∧ s.2.1 + 1 ≤ q + 1 + s.1 ∧ q + 1 + s.1 < xs.length ∧ s.2.2.drop (q + 1 + s.1) = xs.drop (q + 1 + s.1) ∧ compactL xs = s.2.2.take s.2.1 ++ compactL (xs.drop (q + 1 + s.1)) ∧ s.2.2[s.2.1]? = xs[q + 1 + s.1]?) (0, q, xs) ⟨_, _, rfl, ⟨_, _, rfl, rfl, rfl⟩, rfl⟩ ?_ (by repeat' (first | exact List.Sublist.refl _ | exact List.sublist_append_left _ _ | exact List.nil_sublist _ | apply List.Sublist.cons₂ | apply List.Sublist.cons)) (by repeat' (first | exact trivial | refine ⟨rfl, ?_⟩)) ?_)
      · exact ⟨rfl, rfl, Nat.le_refl _, hlt, rfl, hcq, by simp only; rw [ey, Nat.add_zero, ex]⟩
      clear hcq ex ey
      rintro h2 ⟨j, kk, ys⟩ - ⟨rfl, hyl, hkj, hp, hdr, hcq, hlast⟩
      simp only at hyl hkj hp hdr hcq hlast
      dsimp only
      have hget : ∀ i, ys[q + 1 + j + i]? = xs[q + 1 + j + i]? := fun i => by
        have := congrArg (fun l : List ID => l[i]?) hdr
        simpa [List.getElem?_drop] using this
      by_cases hlt2 : q + 1 + (j + 1) < xs.length
      · obtain ⟨⟨x1, x2⟩, ex⟩ := get_of (xs := xs) (k := q + 1 + (j + 1)) hlt2
        obtain ⟨⟨y1, y2⟩, ey⟩ := get_of (xs := xs) (k := q + 1 + j) (by omega)
        have hcd := compactL_drop ey (by rw [Nat.add_assoc]; exact ex)
        have fx : ys[q + 1 + (j + 1)]? = some (x1, x2) := by have := hget 1; rw [Nat.add_assoc] at this; rw [this, ex]
        have fy : ys[q + 1 + j]? = some (y1, y2) := by have := hget 0; simpa [ey] using this
        obtain ⟨z, ez⟩ := get_of (xs := ys) (k := j) (by omega)
        have hdr' : ys.drop (q + 1 + (j + 1)) = xs.drop (q + 1 + (j + 1)) := by
          have := congrArg (List.drop 1) hdr
          simpa [List.drop_drop, Nat.add_assoc] using this
        rw [ey] at hlast
        clear hget ey hdr
        (focus (refine WP_seq ?_; refine WP_seq ?_; refine R_region ?_; refine S_q rfl rfl rfl (Q_move rfl rfl) ?_; refine S_q rfl rfl rfl (Q_move rfl rfl) ?_; refine S_q rfl rfl rfl (Q_len rfl rfl rfl rfl rfl rfl) ?_; refine S_q rfl rfl rfl (Q_cmp rfl rfl rfl rfl) ?_; refine OPS_nil ?_; refine then_n ?_; refine WP_cond rfl (fun c5_1 => ?_) (fun c5_1 => ?_) <;> (first | (simp [*] at c5_1; done) | (try simp at c5_1)); (focus (refine WP_skip ?_; refine then_n ?_; refine WP_seq ?_; refine WP_block ?_; refine WP_seq ?_; refine R_draw (n := 10) mixed rfl ?_; refine A_at 0 rfl rfl ?_; refine A_q (m' := 1) rfl rfl rfl (Q_move rfl rfl) rfl (by decide +kernel) ?_; refine A_at 1 rfl rfl ?_; refine A_q (m' := 3) rfl rfl rfl (Q_move rfl rfl) rfl (by decide +kernel) ?_; refine A_at 2 rfl rfl ?_; refine A_q (m' := 7) rfl rfl rfl (Q_index rfl rfl rfl (elm rfl) rfl (by first | assumption | omega)) rfl (by decide +kernel) ?_; refine A_at 3 rfl rfl ?_; refine A_load (m' := 15) rfl rfl rfl rfl rfl rfl (by decide +kernel) ?_; refine L_id1 m0 (by assumption) (ty rfl) ?_; refine A_at 4 rfl rfl ?_; refine A_q (m' := 31) rfl rfl rfl (Q_move rfl rfl) rfl (by decide +kernel) ?_; refine A_at 5 rfl rfl ?_; refine A_q (m' := 63) rfl rfl rfl (Q_move rfl rfl) rfl (by decide +kernel) ?_; refine A_at 6 rfl rfl ?_; refine A_q (m' := 127) rfl rfl rfl (Q_sub rfl rfl rfl (by omega)) rfl (by decide +kernel) ?_; refine A_at 7 rfl rfl ?_; refine A_q (m' := 255) rfl rfl rfl (Q_indexX ez rfl rfl rfl (elm rfl) (by omega) (by omega)) rfl (by decide +kernel) ?_; refine A_at 8 rfl rfl ?_; refine A_load (m' := 511) rfl rfl rfl rfl rfl rfl (by decide +kernel) ?_; refine L_id1 m0 (by assumption) (ty rfl) ?_; refine A_at 9 rfl rfl ?_; refine A_q (m' := 1023) rfl rfl rfl (Q_neI eqID rfl rfl rfl rfl rfl) rfl (by decide +kernel) ?_; refine A_done (by decide +kernel) ?_; refine then_n ?_; refine WP_cond rfl (fun c5_2 => ?_) (fun c5_2 => ?_) <;> (first | (simp [*] at c5_2; done) | (try simp at c5_2)); (focus (refine WP_seq ?_; refine R_region ?_; refine S_q rfl rfl rfl (Q_move rfl rfl) ?_; refine S_q rfl rfl rfl (Q_move rfl rfl) ?_; refine S_q rfl rfl rfl (Q_move rfl rfl) ?_; refine S_q rfl rfl rfl (Q_move rfl rfl) ?_; refine S_q rfl rfl rfl (Q_index rfl rfl rfl (elm rfl) rfl (by first | assumption | omega)) ?_; refine S_load rfl rfl rfl rfl rfl ?_; refine L_id1 m0 (by assumption) (ty rfl) ?_; refine S_q rfl rfl rfl (Q_index rfl rfl rfl (elm rfl) rfl (by first | assumption | omega)) ?_; refine S_w0 rfl rfl (W_id rfl rfl rfl (ty rfl) (by omega) u0 ?_); refine OPS_nil ?_; refine then_n ?_; refine R_region ?_; refine S_q rfl rfl rfl (Q_move rfl rfl) ?_; refine S_q rfl rfl rfl (Q_add rfl rfl rfl (by omega)) ?_; refine S_q rfl rfl rfl (Q_assign rfl rfl) ?_; refine OPS_nil ?_; refine block_n ?_; refine then_n ?_; refine R_region ?_; refine S_q rfl rfl rfl (Q_move rfl rfl) ?_; refine S_q rfl rfl rfl (Q_add rfl rfl rfl (by omega)) ?_; refine S_q rfl rfl rfl (Q_assign rfl rfl) ?_; refine OPS_nil ?_)); rotate_left 1; (focus (refine WP_skip ?_; refine block_n ?_; refine then_n ?_; refine R_region ?_; refine S_q rfl rfl rfl (Q_move rfl rfl) ?_; refine S_q rfl rfl rfl (Q_add rfl rfl rfl (by omega)) ?_; refine S_q rfl rfl rfl (Q_assign rfl rfl) ?_; refine OPS_nil ?_)); rotate_left 1)); rotate_left 2; (focus (exfalso; omega))))
        · refine roundF_n (j + 1, kk + 1, ys.set (kk + 1) (x1, x2)) (by simp only; omega) ⟨rfl, by simp [hyl], by simp only; omega, by simp only; omega, ?_, ?_, ?_⟩ (by repeat' (first | exact List.Sublist.refl _ | exact List.sublist_append_left _ _ | exact List.nil_sublist _ | apply List.Sublist.cons₂ | apply List.Sublist.cons)) (by repeat' (first | exact trivial | refine ⟨rfl, ?_⟩))
          · simp only; rw [List.drop_set_of_lt (by omega)]; exact hdr'
          · simp only; rw [hcq, hcd, if_neg (by intro e; cases e; simp at c5_2), List.take_set_of_le (Nat.le_refl _), List.take_add_one, hlast]; simp [Nat.add_assoc]
          · simp only; rw [ex, List.getElem?_set_self (by omega)]
        · obtain ⟨rfl, rfl⟩ := c5_2
          refine roundF_n (j + 1, kk, ys) (by simp only; omega) ⟨rfl, hyl, by simp only; omega, by simp only; omega, hdr', ?_, ?_⟩ (by repeat' (first | exact List.Sublist.refl _ | exact List.sublist_append_left _ _ | exact List.nil_sublist _ | apply List.Sublist.cons₂ | apply List.Sublist.cons)) (by repeat' (first | exact trivial | refine ⟨rfl, ?_⟩))
          · simp only; rw [hcq, hcd, if_pos rfl, Nat.add_assoc]
          · simp only; rw [hlast, ex]
      · obtain ⟨y, ey⟩ := get_of (xs := xs) (k := q + 1 + j) (by omega)
        have hce : compactL xs = ys.take (kk + 1) := by
          rw [hcq, drop_get ey, List.drop_eq_nil_of_le (by omega), compactL, List.take_add_one, hlast, ey]; rfl
        (focus (refine WP_seq ?_; refine WP_seq ?_; refine R_region ?_; refine S_q rfl rfl rfl (Q_move rfl rfl) ?_; refine S_q rfl rfl rfl (Q_move rfl rfl) ?_; refine S_q rfl rfl rfl (Q_len rfl rfl rfl rfl rfl rfl) ?_; refine S_q rfl rfl rfl (Q_cmp rfl rfl rfl rfl) ?_; refine OPS_nil ?_; refine then_n ?_; refine WP_cond rfl (fun c6_1 => ?_) (fun c6_1 => ?_) <;> (first | (simp [*] at c6_1; done) | (try simp at c6_1)); (focus (exfalso; omega)); (focus (refine WP_exit ?_; refine then_e ?_; refine roundF_e ?_; refine block_e ?_; refine then_n ?_; refine WP_seq ?_; refine R_region ?_; refine S_q rfl rfl rfl (Q_move rfl rfl) ?_; refine S_q rfl rfl rfl (Q_move rfl rfl) ?_; refine S_q rfl rfl rfl (Q_slice rfl rfl (elm rfl) ⟨_, rfl⟩ rfl (by omega) (by omega) (by omega)) ?_; refine S_w0 rfl rfl (W_clear rfl rfl rfl rfl rfl (elm rfl) rfl (by (try simp only [List.length_set]); omega) u0 ?_); refine OPS_nil ?_; refine then_n ?_; refine WP_seq ?_; refine R_region ?_; refine S_q rfl rfl rfl (Q_move rfl rfl) ?_; refine S_q rfl rfl rfl (Q_move rfl rfl) ?_; refine S_q rfl rfl rfl (Q_slice rfl rfl (elm rfl) rfl ⟨_, rfl⟩ (by omega) (by omega) (by omega)) ?_; refine S_q rfl rfl rfl (Q_assign rfl rfl) ?_; refine OPS_nil ?_; refine then_n ?_; refine WP_ret ?_; refine block_r ?_; refine then_r ?_; refine roundF_r ?_; refine block_r ?_; refine then_r ?_)); rotate_left 1))
        have hlk : (ys.take (kk + 1)).length = kk + 1 := by rw [List.length_take]; omega
        have hfl := flatI_length ys
        have hfx := flatI_length xs
        rw [hce]
        refine ret_q _ (.inl rfl) rfl ⟨_, _, rfl, rfl, rfl⟩ (List.Sublist.refl _) ⟨rfl, _, _, by simp only [resOf]; rw [hlk]; rfl, ?_⟩
        rw [flatI_append, List.append_assoc, hlk]
        refine OS.make hlk.symm (by omega) ?_
        simp only [flatI_length, List.length_append, List.length_replicate, hlk] at *; omega
    · refine roundF_n (q + 1) (by omega) ⟨rfl, by omega, ?_⟩ (by repeat' (first | exact List.Sublist.refl _ | exact List.sublist_append_left _ _ | exact List.nil_sublist _ | apply List.Sublist.cons₂ | apply List.Sublist.cons)) (by repeat' (first | exact trivial | refine ⟨rfl, ?_⟩))
      rw [hcq, hcd, if_neg (by intro e; cases e; simp at c3_2), List.take_add_one, ey]; simp
  · have hge : xs.length = q + 1 := by omega
    obtain ⟨y, ey⟩ := get_of (xs := xs) (k := q) (by omega)
    have hce : compactL xs = xs := by
      rw [hcq, drop_get ey, List.drop_eq_nil_of_le (by omega), compactL]
      have := List.take_append_drop q xs
      rw [drop_get ey, List.drop_eq_nil_of_le (by omega)] at this
      exact this
    (focus (refine WP_seq ?_; refine WP_seq ?_; refine R_region ?_; refine S_q rfl rfl rfl (Q_move rfl rfl) ?_; refine S_q rfl rfl rfl (Q_move rfl rfl) ?_; refine S_q rfl rfl rfl (Q_len rfl rfl rfl rfl rfl rfl) ?_; refine S_q rfl rfl rfl (Q_cmp rfl rfl rfl rfl) ?_; refine OPS_nil ?_; refine then_n ?_; refine WP_cond rfl (fun c7_1 => ?_) (fun c7_1 => ?_) <;> (first | (simp [*] at c7_1; done) | (try simp at c7_1)); refine WP_exit ?_; refine then_e ?_; refine roundF_e ?_; refine block_e ?_; refine then_n ?_; refine WP_seq ?_; refine R_region ?_; refine S_q rfl rfl rfl (Q_move rfl rfl) ?_; refine S_q rfl rfl rfl (Q_assign rfl rfl) ?_; refine OPS_nil ?_; refine then_n ?_; refine WP_ret ?_))
    rw [hce]
    exact ret_q _ (.inl rfl) rfl ⟨_, _, rfl, rfl, rfl⟩ (List.Sublist.refl _) ⟨rfl, _, _, rfl, hs⟩
theorem filter_take {xs : List ID} {p : ID → Bool} {k : Nat} {x : ID} (hx : xs[k]? = some x) : (xs.take (k + 1)).filter p = (xs.take k).filter p ++ (if p x then [x] else []) := by
  rw [List.take_add_one, hx, List.filter_append]
  cases hp : p x <;> simp [hp]
theorem findIdx_before {xs : List ID} {p : ID → Bool} {i : Nat} (h : xs.findIdx? p = some i) : (xs.take (i + 1)).filter (fun x => !p x) = xs.take i ∧ i < xs.length := by
  obtain ⟨x, hx, hf⟩ := findIdx_find h
  have hpx := List.find?_some hf
  have hlt := lt_of_get hx
  refine ⟨?_, hlt⟩
  rw [filter_take hx, hpx]
  simp only [Bool.not_true, Bool.false_eq_true, if_false, List.append_nil]
  rw [List.filter_eq_self]
  intro y hy
  obtain ⟨j, hj, rfl⟩ := List.getElem_of_mem hy
  simp only [List.length_take] at hj
  have := (List.findIdx?_eq_some_iff_getElem.1 h).2.2 j (by omega)
  simpa using this
theorem deleteFunc_s {h : Frag} {v : Value} {xs : List ID} {M : Hp} {g : Nat} {cap : List Value} {p : ID → Bool} (hs : OS h 35 2 IDC v xs M) (hxl : xs.length ≤ 4398046511104) (hcal : callOk Tryz.prog g = true)
    (hfn0 : ∀ h', le h h' → ∀ x, PSpec Tryz.prog g ([Value.agg (idc x).toArray] ++ cap).toArray h' (fun _ u => u = .bool (p x))) :
    FSpec Tryz.prog 88 #[v, .func (.func g) #[] cap.toArray] h M (fun h' L' u => h' = h ∧ ∃ q c, u = .slice q (xs.filter fun x => !p x).length c ∧ OS h' 35 2 IDC (.slice q (xs.filter fun x => !p x).length c) (xs.filter fun x => !p x) L') := by
  obtain ⟨pp, c, rfl⟩ := hs.slice
  have hfn := hfn0 h (le_refl _)
  refine spec_of (vs := [.slice pp xs.length c, .func (.func g) #[] cap.toArray]) Tryz.func88 Tryz.ntmps88 rfl rfl rfl ?_
  rw [show M = M ++ [] from (List.append_nil _).symm]
  (focus (refine WP_seq ?_; refine R_region ?_; refine S_q rfl rfl rfl (Q_assign rfl rfl) ?_; refine OPS_nil ?_; refine then_n ?_; refine WP_seq ?_; refine R_region ?_; refine S_q rfl rfl rfl (Q_move rfl rfl) ?_; refine S_q rfl rfl rfl (Q_move rfl rfl) ?_))
  refine S_w rfl rfl rfl (W_callBv (M := M) [] _ (fun h' hl' hm => idxID_s (C := IDC) (p := p) (hs.sl hl' IDC_mono hm hxl) hcal (fun x us _ _ hx => by cases hx; exact hfn0 h' hl' x)) rfl rfl ⟨_, _, rfl, ⟨_, _, rfl, rfl, rfl⟩, rfl⟩ (cal rfl) rfl ?_)
  cases hi : xs.findIdx? p with
  | none =>
    simp only [idxI]
    have hc : (xs.filter fun x => !p x) = xs := by
      simp only [List.findIdx?_eq_none_iff] at hi
      rw [List.filter_eq_self]; intro x hx; simp [hi x hx]
    (focus (refine S_q rfl rfl rfl (Q_assign rfl rfl) ?_; refine OPS_nil ?_; refine then_n ?_; refine WP_seq ?_; refine WP_seq ?_; refine R_region ?_; refine S_q rfl rfl rfl (Q_move rfl rfl) ?_; refine S_q rfl rfl rfl (Q_cmp rfl rfl rfl rfl) ?_; refine OPS_nil ?_; refine then_n ?_; refine cond_t rfl ?_; refine WP_seq ?_; refine R_region ?_; refine S_q rfl rfl rfl (Q_move rfl rfl) ?_; refine S_q rfl rfl rfl (Q_assign rfl rfl) ?_; refine OPS_nil ?_; refine then_n ?_; refine WP_ret ?_; refine then_r ?_))
    rw [hc]
    exact ret_q M (.inl rfl) rfl ⟨_, _, rfl, rfl, rfl⟩ (by repeat' (first | exact List.Sublist.refl _ | exact List.sublist_append_left _ _ | exact List.nil_sublist _ | apply List.Sublist.cons₂ | apply List.Sublist.cons)) ⟨rfl, _, _, rfl, hs⟩
  | some i0 =>
    simp only [idxI]
    obtain ⟨hbf, hil⟩ := findIdx_before hi
    obtain ⟨b, cap', rest, e, rfl, hcap, hrl⟩ := hs.parts (by omega)
    cases e
    (focus (refine S_q rfl rfl rfl (Q_assign rfl rfl) ?_; refine OPS_nil ?_; refine then_n ?_; refine WP_seq ?_; refine WP_seq ?_; refine R_region ?_; refine S_q rfl rfl rfl (Q_move rfl rfl) ?_; refine S_q rfl rfl rfl (Q_cmp rfl rfl rfl rfl) ?_; refine OPS_nil ?_; refine then_n ?_; refine cond_f rfl ?_; refine WP_skip ?_; refine then_n ?_; refine WP_seq ?_; refine WP_seq ?_; refine R_region ?_; refine S_q rfl rfl rfl (Q_move rfl rfl) ?_; refine S_q rfl rfl rfl (Q_add rfl rfl rfl (by omega)) ?_; refine S_q rfl rfl rfl (Q_assign rfl rfl) ?_; refine OPS_nil ?_; refine then_n ?_; refine WP_block ?_))
    (refine WP_loopF (α := Nat × Nat × List ID) [0, 1] (fun (s : Nat × Nat × List ID) => xs.length - s.1) (fun (s : Nat × Nat × List ID) => [(b, cells (flatI s.2.2 ++ rest) 35)]) (fun (s : Nat × Nat × List ID) => [(6, .int .i64 (s.1 : Int)), (5, .int .i64 (s.2.1 : Int))]) (fun hh (s : Nat × Nat × List ID) => hh = h ∧ s.2.2.length = xs.length ∧ s.2.1 < s.1 ∧ s.1 ≤ xs.length ∧ s.2.2.drop s.1 = xs.drop s.1 ∧ s.2.2.take s.2.1 = (xs.take s.1).filter (fun x => !p x)) (i0 + 1, i0, xs) ⟨_, _, rfl, ⟨_, _, rfl, rfl, rfl⟩, rfl⟩ ?_ (by repeat' (first | exact List.Sublist.refl _ | exact List.sublist_append_left _ _ | exact List.nil_sublist _ | apply List.Sublist.cons₂ | apply List.Sublist.cons)) (by repeat' (first | exact trivial | refine ⟨rfl, ?_⟩)) ?_)
    · exact ⟨rfl, rfl, by simp only; omega, by simp only; omega, rfl, hbf.symm⟩
    clear hs
    rintro h2 ⟨j, i, ys⟩ - ⟨rfl, hyl, hij, hjl, hdr, htk⟩
    simp only at hyl hij hjl hdr htk
    dsimp only
    by_cases hlt : j < xs.length
    · obtain ⟨⟨x1, x2⟩, ex⟩ := get_of hlt
      have fx : ys[j]? = some (x1, x2) := by
        have := congrArg (fun l : List ID => l[0]?) hdr
        simpa [List.getElem?_drop, ex] using this
      have hft := filter_take (p := fun x => !p x) ex
      have hdr' : ys.drop (j + 1) = xs.drop (j + 1) := by
        have := congrArg (List.drop 1) hdr
        simpa [List.drop_drop] using this
      (focus (refine WP_seq ?_; refine WP_seq ?_; refine R_region ?_; refine S_q rfl rfl rfl (Q_move rfl rfl) ?_; refine S_q rfl rfl rfl (Q_move rfl rfl) ?_; refine S_q rfl rfl rfl (Q_len rfl rfl rfl rfl rfl rfl) ?_; refine S_q rfl rfl rfl (Q_cmp rfl rfl rfl rfl) ?_; refine OPS_nil ?_; refine then_n ?_; refine WP_cond rfl (fun c4_1 => ?_) (fun c4_1 => ?_) <;> (first | (simp [*] at c4_1; done) | (try simp at c4_1)); refine WP_skip ?_; refine then_n ?_; refine WP_seq ?_; refine WP_block ?_; refine WP_seq ?_; refine R_region ?_; refine S_q rfl rfl rfl (Q_move rfl rfl) ?_; refine S_q rfl rfl rfl (Q_move rfl rfl) ?_; refine S_q rfl rfl rfl (Q_indexX ex rfl rfl rfl (elm rfl) (by omega) (by omega)) ?_; refine S_load rfl rfl rfl rfl rfl ?_; refine L_id0 m0 (by assumption) (ty rfl) ?_; refine S_c rfl rfl rfl (C_alloc rfl (zer rfl) ?_); intro b4_2; refine S_w0 rfl rfl (W_all rfl rfl rfl (ty rfl) u0 (by first | rfl | assumption) (by first | rfl | assumption) (by first | rfl | assumption | exact ones_sub (by assumption) _ _) ?_); refine OPS_nil ?_; refine then_n ?_; refine WP_seq ?_; refine R_region ?_; refine S_q rfl rfl rfl (Q_move rfl rfl) ?_; refine S_load rfl rfl rfl rfl rfl ?_; refine L_agg (Rd.own m0) (ty rfl) (by first | rfl | assumption) ?_; refine S_c rfl rfl rfl (C_callCv (hfn _) rfl rfl rfl ⟨_, _, rfl, rfl, rfl⟩ hcal ?_); refine S_q rfl rfl rfl (Q_not rfl rfl) ?_; refine OPS_nil ?_; refine then_n ?_; refine WP_cond rfl (fun c4_3 => ?_) (fun c4_3 => ?_) <;> (first | (simp [*] at c4_3; done) | (try simp at c4_3)); (focus (refine WP_seq ?_; refine R_region ?_; refine S_q rfl rfl rfl (Q_move rfl rfl) ?_; refine S_q rfl rfl rfl (Q_move rfl rfl) ?_; refine S_load rfl rfl rfl rfl rfl ?_; refine L_agg (Rd.own m0) (ty rfl) (by first | rfl | assumption) ?_; refine S_q rfl rfl rfl (Q_index rfl rfl rfl (elm rfl) rfl (by first | assumption | omega)) ?_; refine S_w0 rfl rfl (W_id rfl rfl rfl (ty rfl) (by omega) u1 ?_); refine OPS_nil ?_; refine then_n ?_; refine R_region ?_; refine S_q rfl rfl rfl (Q_move rfl rfl) ?_; refine S_q rfl rfl rfl (Q_add rfl rfl rfl (by omega)) ?_; refine S_q rfl rfl rfl (Q_assign rfl rfl) ?_; refine OPS_nil ?_; refine block_n ?_; refine then_n ?_; refine R_region ?_; refine S_q rfl rfl rfl (Q_move rfl rfl) ?_; refine S_q rfl rfl rfl (Q_add rfl rfl rfl (by omega)) ?_; refine S_q rfl rfl rfl (Q_assign rfl rfl) ?_; refine OPS_nil ?_)); rotate_left 1; (focus (refine WP_skip ?_; refine block_n ?_; refine then_n ?_; refine R_region ?_; refine S_q rfl rfl rfl (Q_move rfl rfl) ?_; refine S_q rfl rfl rfl (Q_add rfl rfl rfl (by omega)) ?_; refine S_q rfl rfl rfl (Q_assign rfl rfl) ?_; refine OPS_nil ?_)); rotate_left 1))
      · refine roundF_n (j + 1, i + 1, ys.set i (x1, x2)) (by simp only; omega) ⟨rfl, by simp [hyl], by simp only; omega, by simp only; omega, ?_, ?_⟩ (by repeat' (first | exact List.Sublist.refl _ | exact List.sublist_append_left _ _ | exact List.nil_sublist _ | apply List.Sublist.cons₂ | apply List.Sublist.cons)) (by repeat' (first | exact trivial | refine ⟨rfl, ?_⟩))
        · simp only; rw [List.drop_set_of_lt (by omega)]; exact hdr'
        · simp only; rw [hft, ← htk, List.take_add_one, List.take_set_of_le (Nat.le_refl _), List.getElem?_set_self (by omega)]; simp [c4_3]
      · refine roundF_n (j + 1, i, ys) (by simp only; omega) ⟨rfl, hyl, by simp only; omega, by simp only; omega, hdr', ?_⟩ (by repeat' (first | exact List.Sublist.refl _ | exact List.sublist_append_left _ _ | exact List.nil_sublist _ | apply List.Sublist.cons₂ | apply List.Sublist.cons)) (by repeat' (first | exact trivial | refine ⟨rfl, ?_⟩))
        simp only; rw [hft, ← htk]; simp [c4_3]
    · have hce : (xs.filter fun x => !p x) = ys.take i := by rw [htk, List.take_of_length_le (by omega)]
      (focus (refine WP_seq ?_; refine WP_seq ?_; refine R_region ?_; refine S_q rfl rfl rfl (Q_move rfl rfl) ?_; refine S_q rfl rfl rfl (Q_move rfl rfl) ?_; refine S_q rfl rfl rfl (Q_len rfl rfl rfl rfl rfl rfl) ?_; refine S_q rfl rfl rfl (Q_cmp rfl rfl rfl rfl) ?_; refine OPS_nil ?_; refine then_n ?_; refine WP_cond rfl (fun c5_1 => ?_) (fun c5_1 => ?_) <;> (first | (simp [*] at c5_1; done) | (try simp at c5_1)); refine WP_exit ?_; refine then_e ?_; refine roundF_e ?_; refine block_e ?_; refine then_n ?_; refine WP_seq ?_; refine R_region ?_; refine S_q rfl rfl rfl (Q_move rfl rfl) ?_; refine S_q rfl rfl rfl (Q_move rfl rfl) ?_; refine S_q rfl rfl rfl (Q_slice rfl rfl (elm rfl) ⟨_, rfl⟩ rfl (by omega) (by omega) (by omega)) ?_; refine S_w0 rfl rfl (W_clear rfl rfl rfl rfl rfl (elm rfl) rfl (by (try simp only [List.length_set]); omega) u0 ?_); refine OPS_nil ?_; refine then_n ?_; refine WP_seq ?_; refine R_region ?_; refine S_q rfl rfl rfl (Q_move rfl rfl) ?_; refine S_q rfl rfl rfl (Q_move rfl rfl) ?_; refine S_q rfl rfl rfl (Q_slice rfl rfl (elm rfl) rfl ⟨_, rfl⟩ (by omega) (by omega) (by omega)) ?_; refine S_q rfl rfl rfl (Q_assign rfl rfl) ?_; refine OPS_nil ?_; refine then_n ?_; refine WP_ret ?_))
      have hlk : (ys.take i).length = i := by rw [List.length_take]; omega
      have hfl := flatI_length ys
      have hfx := flatI_length xs
      rw [hce]
      refine ret_q _ (.inl rfl) rfl ⟨_, _, rfl, rfl, rfl⟩ (List.Sublist.refl _) ⟨rfl, _, _, by simp only [resOf]; rw [hlk]; rfl, ?_⟩
      rw [flatI_append, List.append_assoc, hlk]
      refine OS.make hlk.symm (by omega) ?_
      simp only [flatI_length, List.length_append, List.length_replicate, hlk] at *; omega
end Go.Proofs.YtfhoecgiahpddaaGreat
