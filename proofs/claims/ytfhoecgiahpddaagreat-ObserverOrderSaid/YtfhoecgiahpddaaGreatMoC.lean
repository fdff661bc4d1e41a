/-
  Part C of the proof's ground: Fi, Fj, Fk, Ua, Fl, Ub, Rules6, Pa, Ra, Oa, Ob, Rules7, Oc, Od.
-/
import Derived.Lib.AppendZeros
import Derived.Test.YtfhoecgiahpddaaGreatMoA
import Derived.Test.YtfhoecgiahpddaaGreatMoB
/-
  CONTRACTS: slices of identities copied, sorted, made compact; sets.
-/
set_option linter.all false
namespace Go.Proofs.YtfhoecgiahpddaaGreat
open Go.Mesh Go.RowKit
set_option maxRecDepth 100000
set_option linter.unusedVariables false
set_option maxHeartbeats 4000000
attribute [local irreducible] WP OPS ANY ANYo LG LV FSpec PSpec QOP OPc OPw thenQ blockQ roundQ roundF retQ retM Rd At SLB OS cmpI orI cmpID namedB valB nodeB kindB validG valAux idxI findG zeroV viewOf vwAt idxOf recv flyB scionOf moveOf numberedOf idOf valueOf mget mput localB carriedB stubOf followF followOf flOf flightsOf flPre
theorem cloneID_s {h : Frag} {a : Value} {xs : List ID} (hx : SL h 2 IDC a xs) : FSpec Tryz.prog 83 #[a] h [] (fun h' L' v => ∃ p c, v = .slice p xs.length c ∧ OS h' 35 2 IDC (.slice p xs.length c) xs L') := by
  have hxl := hx.le
  obtain ⟨p, cap, rfl⟩ := hx.slice
  refine spec_of (vs := [.slice p xs.length cap]) Tryz.func83 Tryz.ntmps83 rfl rfl rfl ?_
  (focus (refine Wr ?_; refine Sm rfl ?_; refine On ?_; refine WP_seq ?_; refine Wr ?_; refine Sm rfl ?_; refine S_q rfl rfl rfl (Q_eqNil rfl rfl rfl rfl) ?_; refine On ?_; refine WP_cond rfl (fun c0_1 => ?_) (fun c0_1 => ?_) <;> (first | (simp [*] at c0_1; done) | (try simp at c0_1)); (focus (refine Wr ?_; refine Sm rfl ?_; refine On ?_; refine WP_ret ?_; refine then_r ?_)); rotate_left 1; (focus (refine WP_skip ?_; refine then_n ?_; refine Wr ?_; refine S_c rfl rfl rfl (C_buildSlice rfl (elm rfl) (zer rfl) rfl rfl rfl rfl ?_); intro b0_2; refine Sm rfl ?_; refine S_w rfl rfl rfl (W_appS [] _ (OS.lit0 _ _ _ _ _) ‹_› rfl rfl rfl rfl rfl rfl (elm rfl) (zer rfl) rfl rfl (by (try simp only [lA]); omega) (by (try simp only [lA]); omega) ?_); rintro p0_3 q0_3 m0_3 o0_3; refine Sm rfl ?_; refine On ?_; refine WP_ret ?_)); rotate_left 1))
  · subst c0_1
    have hn : xs = [] := hx.none_nil
    subst hn
    exact ret_q [] (.inl rfl) rfl ⟨_, _, rfl, rfl, rfl⟩ (List.Sublist.refl _) ⟨_, _, rfl, OS.nil _ _ _ _⟩
  · exact ret_q m0_3 (.inl rfl) rfl ⟨_, _, rfl, rfl, rfl⟩ (by repeat' first | exact sR _ | exact sA _ _ | exact sN _ | apply s2 | apply s1) ⟨_, _, rfl, o0_3⟩
def compactL : List ID → List ID
  | [] => []
  | [x] => [x]
  | x :: y :: r => if x = y then compactL (y :: r) else x :: compactL (y :: r)
theorem compactL_drop {xs : List ID} {k : Nat} {x y : ID} (hx : xs[k]? = some x) (hy : xs[k + 1]? = some y) : compactL (xs.drop k) = if x = y then compactL (xs.drop (k + 1)) else x :: compactL (xs.drop (k + 1)) := by
  rw [drop_get hx, drop_get hy, compactL]
theorem compact_s {h : Frag} {v : Value} {xs : List ID} {M : Hp} (hs : OS h 35 2 IDC v xs M) (hxl : xs.length ≤ 4398046511104) : FSpec Tryz.prog 91 #[v] h M (fun h' L' u => h' = h ∧ ∃ p c, u = .slice p (compactL xs).length c ∧ OS h' 35 2 IDC (.slice p (compactL xs).length c) (compactL xs) L') := by
  obtain ⟨p, c, rfl⟩ := hs.slice
  by_cases hsm : xs.length < 2
  · refine spec_of (vs := [.slice p xs.length c]) Tryz.func91 Tryz.ntmps91 rfl rfl rfl ?_
    (focus (refine Wr ?_; refine Sm rfl ?_; refine On ?_; refine WP_seq ?_; refine Wr ?_; refine Sm rfl ?_; refine S_q rfl rfl rfl (Q_len rfl rfl rfl rfl rfl rfl) ?_; refine Sc rfl rfl rfl rfl rfl rfl rfl ?_; refine On ?_; refine WP_cond rfl (fun c0_1 => ?_) (fun c0_1 => ?_) <;> (first | (simp [*] at c0_1; done) | (try simp at c0_1)); (focus (refine Wr ?_; refine Sm rfl ?_; refine Sm rfl ?_; refine On ?_; refine WP_ret ?_; refine then_r ?_)); rotate_left 1; (focus (exfalso; omega))))
    have hc : compactL xs = xs := by
      match xs, hsm with
      | [], _ => rfl
      | [_], _ => rfl
    rw [hc]
    exact ret_q M (.inl rfl) rfl ⟨_, _, rfl, rfl, rfl⟩ (List.Sublist.refl _) ⟨rfl, _, _, rfl, hs⟩
  obtain ⟨b, cap, rest, e, rfl, hcap, hrl⟩ := hs.parts (by omega)
  cases e
  refine spec_of (vs := [.slice (some ⟨b, 0, none⟩) xs.length c]) Tryz.func91 Tryz.ntmps91 rfl rfl rfl ?_
  (focus (refine Wr ?_; refine Sm rfl ?_; refine On ?_; refine WP_seq ?_; refine Wr ?_; refine Sm rfl ?_; refine S_q rfl rfl rfl (Q_len rfl rfl rfl rfl rfl rfl) ?_; refine Sc rfl rfl rfl rfl rfl rfl rfl ?_; refine On ?_; refine WP_cond rfl (fun c1_1 => ?_) (fun c1_1 => ?_) <;> (first | (simp [*] at c1_1; done) | (try simp at c1_1)); (focus (exfalso; omega)); (focus (refine WP_skip ?_; refine then_n ?_; refine WP_seq ?_; refine Wr ?_; refine Sm rfl ?_; refine On ?_; refine WP_block ?_)); rotate_left 1))
  (refine WP_loopC (α := Nat) [0] (fun (q : Nat) => xs.length - q) (fun (q : Nat) => [(3, .int .i64 ((q + 1 : Nat) : Int))]) (fun hh (q : Nat) => hh = h ∧ q + 1 ≤ xs.length ∧ compactL xs = xs.take q ++ compactL (xs.drop q)) 0 ⟨_, _, rfl, rfl, rfl⟩ (by repeat' first | exact trivial | refine ⟨rfl, ?_⟩) ?_ ?_)
  · exact ⟨rfl, by omega, rfl⟩
  rintro h1 q _ ⟨rfl, hq, hcq⟩
  by_cases hlt : q + 1 < xs.length
  · obtain ⟨⟨x1, x2⟩, ex⟩ := get_of hlt
    obtain ⟨⟨y1, y2⟩, ey⟩ := get_of (xs := xs) (k := q) (by omega)
    have hcd := compactL_drop ey ex
    (focus (refine WP_seq ?_; refine Wr ?_; refine Sm rfl ?_; refine Sm rfl ?_; refine S_q rfl rfl rfl (Q_len rfl rfl rfl rfl rfl rfl) ?_; refine Sc rfl rfl rfl rfl rfl rfl rfl ?_; refine On ?_; refine WP_cond rfl (fun c3_1 => ?_) (fun c3_1 => ?_) <;> (first | (simp [*] at c3_1; done) | (try simp at c3_1)); (focus (refine WP_skip ?_; refine then_n ?_; refine WP_seq ?_; refine WP_block ?_; refine WP_seq ?_; refine R_draw (n := 10) mixed rfl ?_; refine A_at 0 rfl rfl ?_; refine A_q (m' := 1) rfl rfl rfl (Q_move rfl rfl) rfl (by decide +kernel) ?_; refine A_at 1 rfl rfl ?_; refine A_q (m' := 3) rfl rfl rfl (Q_move rfl rfl) rfl (by decide +kernel) ?_; refine A_at 2 rfl rfl ?_; refine A_q (m' := 7) rfl rfl rfl (Q_indexX ex rfl rfl rfl (elm rfl) (by omega) (by omega)) rfl (by decide +kernel) ?_; refine A_at 3 rfl rfl ?_; refine A_load (m' := 15) rfl rfl rfl rfl rfl rfl (by decide +kernel) ?_; refine L_id0 m0 ‹_› (ty rfl) ?_; refine A_at 4 rfl rfl ?_; refine A_q (m' := 31) rfl rfl rfl (Q_move rfl rfl) rfl (by decide +kernel) ?_; refine A_at 5 rfl rfl ?_; refine A_q (m' := 63) rfl rfl rfl (Q_move rfl rfl) rfl (by decide +kernel) ?_; refine A_at 6 rfl rfl ?_; refine A_q (m' := 127) rfl rfl rfl (Q_sub rfl rfl rfl (by omega)) rfl (by decide +kernel) ?_; refine A_at 7 rfl rfl ?_; refine A_q (m' := 255) rfl rfl rfl (Q_indexX ey rfl rfl rfl (elm rfl) (by omega) (by omega)) rfl (by decide +kernel) ?_; refine A_at 8 rfl rfl ?_; refine A_load (m' := 511) rfl rfl rfl rfl rfl rfl (by decide +kernel) ?_; refine L_id0 m0 ‹_› (ty rfl) ?_; refine A_at 9 rfl rfl ?_; refine A_q (m' := 1023) rfl rfl rfl (Q_eqI eqID rfl rfl rfl rfl rfl) rfl (by decide +kernel) ?_; refine A_done (by decide +kernel) ?_; refine then_n ?_; refine WP_cond rfl (fun c3_2 => ?_) (fun c3_2 => ?_) <;> (first | (simp [*] at c3_2; done) | (try simp at c3_2)); (focus (refine Wr ?_; refine Sm rfl ?_; refine Sm rfl ?_; refine S_q rfl rfl rfl (Q_slice rfl rfl (elm rfl) ⟨_, rfl⟩ rfl (by omega) (by omega) (by omega)) ?_; refine Sm rfl ?_; refine On ?_; refine WP_seq ?_; refine Wr ?_; refine Sm rfl ?_; refine On ?_; refine WP_block ?_)); rotate_left 1; (focus (refine WP_skip ?_; refine block_n ?_; refine then_n ?_; refine R_region ?_; refine Sm rfl ?_; refine S_q rfl rfl rfl (Q_add rfl rfl rfl (by omega)) ?_; refine Sm rfl ?_; refine OPS_nil ?_)); rotate_left 1)); rotate_left 2; (focus (exfalso; omega))))
    · obtain ⟨rfl, rfl⟩ := c3_2
      rw [if_pos rfl] at hcd
      rw [hcd] at hcq
      clear hs hcd
      (refine WP_loopF (α := Nat × Nat × List ID) [4, 0] (fun (s : Nat × Nat × List ID) => xs.length - s.1) (fun (s : Nat × Nat × List ID) => [(b, cells (flatI s.2.2 ++ rest) 35)]) (fun (s : Nat × Nat × List ID) => [(5, .int .i64 ((s.1 + 1 : Nat) : Int)), (3, .int .i64 ((s.2.1 + 1 : Nat) : Int))]) (fun hh (s : Nat × Nat × List ID) => hh = h1 ∧ s.2.2.length = xs.length ∧ s.2.1 + 1 ≤ q + 1 + s.1 ∧ q + 1 + s.1 < xs.length ∧ s.2.2.drop (q + 1 + s.1) = xs.drop (q + 1 + s.1) ∧ compactL xs = s.2.2.take s.2.1 ++ compactL (xs.drop (q + 1 + s.1)) ∧ s.2.2[s.2.1]? = xs[q + 1 + s.1]?) (0, q, xs) ⟨_, _, rfl, ⟨_, _, rfl, rfl, rfl⟩, rfl⟩ ?_ (by repeat' first | exact sR _ | exact sA _ _ | exact sN _ | apply s2 | apply s1) (by repeat' first | exact trivial | refine ⟨rfl, ?_⟩) ?_)
      · exact ⟨rfl, rfl, Nat.le_refl _, hlt, rfl, hcq, by simp only; rw [ey, Nat.add_zero, ex]⟩
      clear hcq ex ey
      rintro h2 ⟨j, kk, ys⟩ - ⟨rfl, hyl, hkj, hp, hdr, hcq, hlast⟩
      simp only at hyl hkj hp hdr hcq hlast
      dsimp only
      have hget : ∀ i, ys[q + 1 + j + i]? = xs[q + 1 + j + i]? := fun i => by
        have := congrArg (fun l : List ID => l[i]?) hdr
        simpa [List.getElem?_drop] using this
      by_cases hlt2 : q + 1 + (j + 1) < xs.length
      · obtain ⟨⟨x1, x2⟩, ex⟩ := get_of (xs := xs) (k := q + 1 + (j + 1)) hlt2
        obtain ⟨⟨y1, y2⟩, ey⟩ := get_of (xs := xs) (k := q + 1 + j) (by omega)
        have hcd := compactL_drop ey (by rw [Nat.add_assoc]; exact ex)
        have fx : ys[q + 1 + (j + 1)]? = some (x1, x2) := by have := hget 1; rw [Nat.add_assoc] at this; rw [this, ex]
        have fy : ys[q + 1 + j]? = some (y1, y2) := by have := hget 0; simpa [ey] using this
        obtain ⟨z, ez⟩ := get_of (xs := ys) (k := j) (by omega)
        have hdr' : ys.drop (q + 1 + (j + 1)) = xs.drop (q + 1 + (j + 1)) := by
          have := congrArg (List.drop 1) hdr
          simpa [List.drop_drop, Nat.add_assoc] using this
        rw [ey] at hlast
        clear hget ey hdr
        (focus (refine WP_seq ?_; refine Wr ?_; refine Sm rfl ?_; refine Sm rfl ?_; refine S_q rfl rfl rfl (Q_len rfl rfl rfl rfl rfl rfl) ?_; refine Sc rfl rfl rfl rfl rfl rfl rfl ?_; refine On ?_; refine WP_cond rfl (fun c5_1 => ?_) (fun c5_1 => ?_) <;> (first | (simp [*] at c5_1; done) | (try simp at c5_1)); (focus (refine WP_skip ?_; refine then_n ?_; refine WP_seq ?_; refine WP_block ?_; refine WP_seq ?_; refine R_draw (n := 10) mixed rfl ?_; refine A_at 0 rfl rfl ?_; refine A_q (m' := 1) rfl rfl rfl (Q_move rfl rfl) rfl (by decide +kernel) ?_; refine A_at 1 rfl rfl ?_; refine A_q (m' := 3) rfl rfl rfl (Q_move rfl rfl) rfl (by decide +kernel) ?_; refine A_at 2 rfl rfl ?_; refine A_q (m' := 7) rfl rfl rfl (Q_index rfl rfl rfl (elm rfl) rfl (by first | assumption | omega)) rfl (by decide +kernel) ?_; refine A_at 3 rfl rfl ?_; refine A_load (m' := 15) rfl rfl rfl rfl rfl rfl (by decide +kernel) ?_; refine L_id1 m0 ‹_› (ty rfl) ?_; refine A_at 4 rfl rfl ?_; refine A_q (m' := 31) rfl rfl rfl (Q_move rfl rfl) rfl (by decide +kernel) ?_; refine A_at 5 rfl rfl ?_; refine A_q (m' := 63) rfl rfl rfl (Q_move rfl rfl) rfl (by decide +kernel) ?_; refine A_at 6 rfl rfl ?_; refine A_q (m' := 127) rfl rfl rfl (Q_sub rfl rfl rfl (by omega)) rfl (by decide +kernel) ?_; refine A_at 7 rfl rfl ?_; refine A_q (m' := 255) rfl rfl rfl (Q_indexX ez rfl rfl rfl (elm rfl) (by omega) (by omega)) rfl (by decide +kernel) ?_; refine A_at 8 rfl rfl ?_; refine A_load (m' := 511) rfl rfl rfl rfl rfl rfl (by decide +kernel) ?_; refine L_id1 m0 ‹_› (ty rfl) ?_; refine A_at 9 rfl rfl ?_; refine A_q (m' := 1023) rfl rfl rfl (Q_neI eqID rfl rfl rfl rfl rfl) rfl (by decide +kernel) ?_; refine A_done (by decide +kernel) ?_; refine then_n ?_; refine WP_cond rfl (fun c5_2 => ?_) (fun c5_2 => ?_) <;> (first | (simp [*] at c5_2; done) | (try simp at c5_2)); (focus (refine Wr ?_; refine Sm rfl ?_; refine Sm rfl ?_; refine Sm rfl ?_; refine Sm rfl ?_; refine S_q rfl rfl rfl (Q_index rfl rfl rfl (elm rfl) rfl (by first | assumption | omega)) ?_; refine S_load rfl rfl rfl rfl rfl ?_; refine L_id1 m0 ‹_› (ty rfl) ?_; refine S_q rfl rfl rfl (Q_index rfl rfl rfl (elm rfl) rfl (by first | assumption | omega)) ?_; refine S_w0 rfl rfl (W_id rfl rfl rfl (ty rfl) (by omega) u0 ?_); refine On ?_; refine R_region ?_; refine Sm rfl ?_; refine S_q rfl rfl rfl (Q_add rfl rfl rfl (by omega)) ?_; refine Sm rfl ?_; refine OPS_nil ?_; refine block_n ?_; refine then_n ?_; refine R_region ?_; refine Sm rfl ?_; refine S_q rfl rfl rfl (Q_add rfl rfl rfl (by omega)) ?_; refine Sm rfl ?_; refine OPS_nil ?_)); rotate_left 1; (focus (refine WP_skip ?_; refine block_n ?_; refine then_n ?_; refine R_region ?_; refine Sm rfl ?_; refine S_q rfl rfl rfl (Q_add rfl rfl rfl (by omega)) ?_; refine Sm rfl ?_; refine OPS_nil ?_)); rotate_left 1)); rotate_left 2; (focus (exfalso; omega))))
        · refine roundF_n (j + 1, kk + 1, ys.set (kk + 1) (x1, x2)) (by simp only; omega) ⟨rfl, by simp [hyl], by simp only; omega, by simp only; omega, ?_, ?_, ?_⟩ (by repeat' first | exact sR _ | exact sA _ _ | exact sN _ | apply s2 | apply s1) (by repeat' first | exact trivial | refine ⟨rfl, ?_⟩)
          · simp only; rw [List.drop_set_of_lt (by omega)]; exact hdr'
          · simp only; rw [hcq, hcd, if_neg (by intro e; cases e; simp at c5_2), List.take_set_of_le (Nat.le_refl _), List.take_add_one, hlast]; simp [Nat.add_assoc]
          · simp only; rw [ex, List.getElem?_set_self (by omega)]
        · obtain ⟨rfl, rfl⟩ := c5_2
          refine roundF_n (j + 1, kk, ys) (by simp only; omega) ⟨rfl, hyl, by simp only; omega, by simp only; omega, hdr', ?_, ?_⟩ (by repeat' first | exact sR _ | exact sA _ _ | exact sN _ | apply s2 | apply s1) (by repeat' first | exact trivial | refine ⟨rfl, ?_⟩)
          · simp only; rw [hcq, hcd, if_pos rfl, Nat.add_assoc]
          · simp only; rw [hlast, ex]
      · obtain ⟨y, ey⟩ := get_of (xs := xs) (k := q + 1 + j) (by omega)
        have hce : compactL xs = ys.take (kk + 1) := by
          rw [hcq, drop_get ey, List.drop_eq_nil_of_le (by omega), compactL, List.take_add_one, hlast, ey]; rfl
        (focus (refine WP_seq ?_; refine Wr ?_; refine Sm rfl ?_; refine Sm rfl ?_; refine S_q rfl rfl rfl (Q_len rfl rfl rfl rfl rfl rfl) ?_; refine Sc rfl rfl rfl rfl rfl rfl rfl ?_; refine On ?_; refine WP_cond rfl (fun c6_1 => ?_) (fun c6_1 => ?_) <;> (first | (simp [*] at c6_1; done) | (try simp at c6_1)); (focus (exfalso; omega)); (focus (refine WP_exit ?_; refine then_e ?_; refine roundF_e ?_; refine block_e ?_; refine then_n ?_; refine Wr ?_; refine Sm rfl ?_; refine Sm rfl ?_; refine S_q rfl rfl rfl (Q_slice rfl rfl (elm rfl) ⟨_, rfl⟩ rfl (by omega) (by omega) (by omega)) ?_; refine S_w0 rfl rfl (W_clear rfl rfl rfl rfl rfl (elm rfl) rfl (by (try simp only [List.length_set]); omega) u0 ?_); refine On ?_; refine Wr ?_; refine Sm rfl ?_; refine Sm rfl ?_; refine S_q rfl rfl rfl (Q_slice rfl rfl (elm rfl) rfl ⟨_, rfl⟩ (by omega) (by omega) (by omega)) ?_; refine Sm rfl ?_; refine On ?_; refine WP_ret ?_; refine block_r ?_; refine then_r ?_; refine roundF_r ?_; refine block_r ?_; refine then_r ?_)); rotate_left 1))
        have hlk : (ys.take (kk + 1)).length = kk + 1 := by rw [List.length_take]; omega
        have hfl := flatI_length ys
        have hfx := flatI_length xs
        rw [hce]
        refine ret_q _ (.inl rfl) rfl ⟨_, _, rfl, rfl, rfl⟩ (List.Sublist.refl _) ⟨rfl, _, _, by simp only [resOf]; rw [hlk]; rfl, ?_⟩
        rw [flatI_append, List.append_assoc, hlk]
        refine OS.make hlk.symm (by omega) ?_
        simp only [flatI_length, List.length_append, List.length_replicate, hlk] at *; omega
    · refine roundF_n (q + 1) (by omega) ⟨rfl, by omega, ?_⟩ (by repeat' first | exact sR _ | exact sA _ _ | exact sN _ | apply s2 | apply s1) (by repeat' first | exact trivial | refine ⟨rfl, ?_⟩)
      rw [hcq, hcd, if_neg (by intro e; cases e; simp at c3_2), List.take_add_one, ey]; simp
  · have hge : xs.length = q + 1 := by omega
    obtain ⟨y, ey⟩ := get_of (xs := xs) (k := q) (by omega)
    have hce : compactL xs = xs := by
      rw [hcq, drop_get ey, List.drop_eq_nil_of_le (by omega), compactL]
      have := List.take_append_drop q xs
      rw [drop_get ey, List.drop_eq_nil_of_le (by omega)] at this
      exact this
    (focus (refine WP_seq ?_; refine Wr ?_; refine Sm rfl ?_; refine Sm rfl ?_; refine S_q rfl rfl rfl (Q_len rfl rfl rfl rfl rfl rfl) ?_; refine Sc rfl rfl rfl rfl rfl rfl rfl ?_; refine On ?_; refine WP_cond rfl (fun c7_1 => ?_) (fun c7_1 => ?_) <;> (first | (simp [*] at c7_1; done) | (try simp at c7_1)); refine WP_exit ?_; refine then_e ?_; refine roundF_e ?_; refine block_e ?_; refine then_n ?_; refine Wr ?_; refine Sm rfl ?_; refine Sm rfl ?_; refine On ?_; refine WP_ret ?_))
    rw [hce]
    exact ret_q _ (.inl rfl) rfl ⟨_, _, rfl, rfl, rfl⟩ (List.Sublist.refl _) ⟨rfl, _, _, rfl, hs⟩
theorem filter_take {xs : List ID} {p : ID → Bool} {k : Nat} {x : ID} (hx : xs[k]? = some x) : (xs.take (k + 1)).filter p = (xs.take k).filter p ++ (if p x then [x] else []) := by
  rw [List.take_add_one, hx, List.filter_append]
  cases hp : p x <;> simp [hp]
theorem findIdx_before {xs : List ID} {p : ID → Bool} {i : Nat} (h : xs.findIdx? p = some i) : (xs.take (i + 1)).filter (fun x => !p x) = xs.take i ∧ i < xs.length := by
  obtain ⟨x, hx, hf⟩ := findIdx_find h
  have hpx := List.find?_some hf
  have hlt := lt_of_get hx
  refine ⟨?_, hlt⟩
  rw [filter_take hx, hpx]
  simp only [Bool.not_true, Bool.false_eq_true, if_false, List.append_nil]
  rw [List.filter_eq_self]
  intro y hy
  obtain ⟨j, hj, rfl⟩ := List.getElem_of_mem hy
  simp only [List.length_take] at hj
  have := (List.findIdx?_eq_some_iff_getElem.1 h).2.2 j (by omega)
  simpa using this
theorem deleteFunc_s {h : Frag} {v : Value} {xs : List ID} {M : Hp} {g : Nat} {cap : List Value} {p : ID → Bool} (hs : OS h 35 2 IDC v xs M) (hxl : xs.length ≤ 4398046511104) (hcal : callOk Tryz.prog g = true)
    (hfn0 : ∀ h', le h h' → ∀ x, PSpec Tryz.prog g ([Value.agg (idc x).toArray] ++ cap).toArray h' (fun _ u => u = .bool (p x))) :
    FSpec Tryz.prog 88 #[v, .func (.func g) #[] cap.toArray] h M (fun h' L' u => h' = h ∧ ∃ q c, u = .slice q (xs.filter fun x => !p x).length c ∧ OS h' 35 2 IDC (.slice q (xs.filter fun x => !p x).length c) (xs.filter fun x => !p x) L') := by
  obtain ⟨pp, c, rfl⟩ := hs.slice
  have hfn := hfn0 h (le_refl _)
  refine spec_of (vs := [.slice pp xs.length c, .func (.func g) #[] cap.toArray]) Tryz.func88 Tryz.ntmps88 rfl rfl rfl ?_
  rw [show M = M ++ [] from (List.append_nil _).symm]
  (focus (refine Wr ?_; refine Sm rfl ?_; refine On ?_; refine Wr ?_; refine Sm rfl ?_; refine Sm rfl ?_))
  refine S_w rfl rfl rfl (W_callBv (M := M) [] _ (fun h' hl' hm => idxID_s (C := IDC) (p := p) (hs.sl hl' IDC_mono hm hxl) hcal (fun x us _ _ hx => by cases hx; exact hfn0 h' hl' x)) rfl rfl ⟨_, _, rfl, ⟨_, _, rfl, rfl, rfl⟩, rfl⟩ (cal rfl) rfl ?_)
  cases hi : xs.findIdx? p with
  | none =>
    simp only [idxI]
    have hc : (xs.filter fun x => !p x) = xs := by
      simp only [List.findIdx?_eq_none_iff] at hi
      rw [List.filter_eq_self]; intro x hx; simp [hi x hx]
    (focus (refine Sm rfl ?_; refine On ?_; refine WP_seq ?_; refine Wr ?_; refine Sm rfl ?_; refine Sc rfl rfl rfl rfl rfl rfl rfl ?_; refine On ?_; refine cond_t rfl ?_; refine Wr ?_; refine Sm rfl ?_; refine Sm rfl ?_; refine On ?_; refine WP_ret ?_; refine then_r ?_))
    rw [hc]
    exact ret_q M (.inl rfl) rfl ⟨_, _, rfl, rfl, rfl⟩ (by repeat' first | exact sR _ | exact sA _ _ | exact sN _ | apply s2 | apply s1) ⟨rfl, _, _, rfl, hs⟩
  | some i0 =>
    simp only [idxI]
    obtain ⟨hbf, hil⟩ := findIdx_before hi
    obtain ⟨b, cap', rest, e, rfl, hcap, hrl⟩ := hs.parts (by omega)
    cases e
    (focus (refine Sm rfl ?_; refine On ?_; refine WP_seq ?_; refine Wr ?_; refine Sm rfl ?_; refine Sc rfl rfl rfl rfl rfl rfl rfl ?_; refine On ?_; refine cond_f rfl ?_; refine WP_skip ?_; refine then_n ?_; refine WP_seq ?_; refine Wr ?_; refine Sm rfl ?_; refine S_q rfl rfl rfl (Q_add rfl rfl rfl (by omega)) ?_; refine Sm rfl ?_; refine On ?_; refine WP_block ?_))
    (refine WP_loopF (α := Nat × Nat × List ID) [0, 1] (fun (s : Nat × Nat × List ID) => xs.length - s.1) (fun (s : Nat × Nat × List ID) => [(b, cells (flatI s.2.2 ++ rest) 35)]) (fun (s : Nat × Nat × List ID) => [(6, .int .i64 (s.1 : Int)), (5, .int .i64 (s.2.1 : Int))]) (fun hh (s : Nat × Nat × List ID) => hh = h ∧ s.2.2.length = xs.length ∧ s.2.1 < s.1 ∧ s.1 ≤ xs.length ∧ s.2.2.drop s.1 = xs.drop s.1 ∧ s.2.2.take s.2.1 = (xs.take s.1).filter (fun x => !p x)) (i0 + 1, i0, xs) ⟨_, _, rfl, ⟨_, _, rfl, rfl, rfl⟩, rfl⟩ ?_ (by repeat' first | exact sR _ | exact sA _ _ | exact sN _ | apply s2 | apply s1) (by repeat' first | exact trivial | refine ⟨rfl, ?_⟩) ?_)
    · exact ⟨rfl, rfl, by simp only; omega, by simp only; omega, rfl, hbf.symm⟩
    clear hs
    rintro h2 ⟨j, i, ys⟩ - ⟨rfl, hyl, hij, hjl, hdr, htk⟩
    simp only at hyl hij hjl hdr htk
    dsimp only
    by_cases hlt : j < xs.length
    · obtain ⟨⟨x1, x2⟩, ex⟩ := get_of hlt
      have fx : ys[j]? = some (x1, x2) := by
        have := congrArg (fun l : List ID => l[0]?) hdr
        simpa [List.getElem?_drop, ex] using this
      have hft := filter_take (p := fun x => !p x) ex
      have hdr' : ys.drop (j + 1) = xs.drop (j + 1) := by
        have := congrArg (List.drop 1) hdr
        simpa [List.drop_drop] using this
      (focus (refine WP_seq ?_; refine Wr ?_; refine Sm rfl ?_; refine Sm rfl ?_; refine S_q rfl rfl rfl (Q_len rfl rfl rfl rfl rfl rfl) ?_; refine Sc rfl rfl rfl rfl rfl rfl rfl ?_; refine On ?_; refine WP_cond rfl (fun c4_1 => ?_) (fun c4_1 => ?_) <;> (first | (simp [*] at c4_1; done) | (try simp at c4_1)); refine WP_skip ?_; refine then_n ?_; refine WP_seq ?_; refine WP_block ?_; refine Wr ?_; refine Sm rfl ?_; refine Sm rfl ?_; refine S_q rfl rfl rfl (Q_indexX ex rfl rfl rfl (elm rfl) (by omega) (by omega)) ?_; refine S_load rfl rfl rfl rfl rfl ?_; refine L_id0 m0 ‹_› (ty rfl) ?_; refine S_c rfl rfl rfl (C_alloc rfl (zer rfl) ?_); intro b4_2; refine S_w0 rfl rfl (W_all rfl rfl rfl (ty rfl) u0 (by first | rfl | assumption) (by first | rfl | assumption) (by first | rfl | assumption | exact ones_sub ‹_› _ _) ?_); refine On ?_; refine Wr ?_; refine Sm rfl ?_; refine S_load rfl rfl rfl rfl rfl ?_; refine L_agg (Rd.own m0) (ty rfl) (by first | rfl | assumption) ?_; refine S_c rfl rfl rfl (C_callCv (hfn _) rfl rfl rfl ⟨_, _, rfl, rfl, rfl⟩ hcal ?_); refine S_q rfl rfl rfl (Q_not rfl rfl) ?_; refine On ?_; refine WP_cond rfl (fun c4_3 => ?_) (fun c4_3 => ?_) <;> (first | (simp [*] at c4_3; done) | (try simp at c4_3)); (focus (refine Wr ?_; refine Sm rfl ?_; refine Sm rfl ?_; refine S_load rfl rfl rfl rfl rfl ?_; refine L_agg (Rd.own m0) (ty rfl) (by first | rfl | assumption) ?_; refine S_q rfl rfl rfl (Q_index rfl rfl rfl (elm rfl) rfl (by first | assumption | omega)) ?_; refine S_w0 rfl rfl (W_id rfl rfl rfl (ty rfl) (by omega) u1 ?_); refine On ?_; refine R_region ?_; refine Sm rfl ?_; refine S_q rfl rfl rfl (Q_add rfl rfl rfl (by omega)) ?_; refine Sm rfl ?_; refine OPS_nil ?_; refine block_n ?_; refine then_n ?_; refine R_region ?_; refine Sm rfl ?_; refine S_q rfl rfl rfl (Q_add rfl rfl rfl (by omega)) ?_; refine Sm rfl ?_; refine OPS_nil ?_)); rotate_left 1; (focus (refine WP_skip ?_; refine block_n ?_; refine then_n ?_; refine R_region ?_; refine Sm rfl ?_; refine S_q rfl rfl rfl (Q_add rfl rfl rfl (by omega)) ?_; refine Sm rfl ?_; refine OPS_nil ?_)); rotate_left 1))
      · refine roundF_n (j + 1, i + 1, ys.set i (x1, x2)) (by simp only; omega) ⟨rfl, by simp [hyl], by simp only; omega, by simp only; omega, ?_, ?_⟩ (by repeat' first | exact sR _ | exact sA _ _ | exact sN _ | apply s2 | apply s1) (by repeat' first | exact trivial | refine ⟨rfl, ?_⟩)
        · simp only; rw [List.drop_set_of_lt (by omega)]; exact hdr'
        · simp only; rw [hft, ← htk, List.take_add_one, List.take_set_of_le (Nat.le_refl _), List.getElem?_set_self (by omega)]; simp [c4_3]
      · refine roundF_n (j + 1, i, ys) (by simp only; omega) ⟨rfl, hyl, by simp only; omega, by simp only; omega, hdr', ?_⟩ (by repeat' first | exact sR _ | exact sA _ _ | exact sN _ | apply s2 | apply s1) (by repeat' first | exact trivial | refine ⟨rfl, ?_⟩)
        simp only; rw [hft, ← htk]; simp [c4_3]
    · have hce : (xs.filter fun x => !p x) = ys.take i := by rw [htk, List.take_of_length_le (by omega)]
      (focus (refine WP_seq ?_; refine Wr ?_; refine Sm rfl ?_; refine Sm rfl ?_; refine S_q rfl rfl rfl (Q_len rfl rfl rfl rfl rfl rfl) ?_; refine Sc rfl rfl rfl rfl rfl rfl rfl ?_; refine On ?_; refine WP_cond rfl (fun c5_1 => ?_) (fun c5_1 => ?_) <;> (first | (simp [*] at c5_1; done) | (try simp at c5_1)); refine WP_exit ?_; refine then_e ?_; refine roundF_e ?_; refine block_e ?_; refine then_n ?_; refine Wr ?_; refine Sm rfl ?_; refine Sm rfl ?_; refine S_q rfl rfl rfl (Q_slice rfl rfl (elm rfl) ⟨_, rfl⟩ rfl (by omega) (by omega) (by omega)) ?_; refine S_w0 rfl rfl (W_clear rfl rfl rfl rfl rfl (elm rfl) rfl (by (try simp only [List.length_set]); omega) u0 ?_); refine On ?_; refine Wr ?_; refine Sm rfl ?_; refine Sm rfl ?_; refine S_q rfl rfl rfl (Q_slice rfl rfl (elm rfl) rfl ⟨_, rfl⟩ (by omega) (by omega) (by omega)) ?_; refine Sm rfl ?_; refine On ?_; refine WP_ret ?_))
      have hlk : (ys.take i).length = i := by rw [List.length_take]; omega
      have hfl := flatI_length ys
      have hfx := flatI_length xs
      rw [hce]
      refine ret_q _ (.inl rfl) rfl ⟨_, _, rfl, rfl, rfl⟩ (List.Sublist.refl _) ⟨rfl, _, _, by simp only [resOf]; rw [hlk]; rfl, ?_⟩
      rw [flatI_append, List.append_assoc, hlk]
      refine OS.make hlk.symm (by omega) ?_
      simp only [flatI_length, List.length_append, List.length_replicate, hlk] at *; omega
end Go.Proofs.YtfhoecgiahpddaaGreat
/-
  SETS OF IDENTITIES: the order, lists that increase strictly, identity.Set and Minus.
-/
set_option linter.all false
namespace Go.Proofs.YtfhoecgiahpddaaGreat
open Go.Mesh Go.RowKit
set_option maxRecDepth 100000
set_option linter.unusedVariables false
set_option maxHeartbeats 4000000
attribute [local irreducible] WP OPS ANY ANYo LG LV FSpec PSpec QOP OPc OPw thenQ blockQ roundQ roundF retQ retM Rd At SLB OS cmpI orI cmpID namedB valB nodeB kindB validG valAux idxI findG zeroV viewOf vwAt idxOf recv flyB scionOf moveOf numberedOf idOf valueOf mget mput localB carriedB stubOf followF followOf flOf flightsOf flPre
theorem cmp_lt {a b : ID} : cmpID a b < 0 ↔ (a.1 < b.1 ∨ (a.1 = b.1 ∧ a.2 < b.2)) := by
  simp only [cmpID, orI, cmpI]
  split <;> split <;> (try split) <;> (try split) <;> simp_all <;> omega
theorem cmp_eq {a b : ID} : (¬ cmpID a b < 0 ∧ ¬ cmpID b a < 0) ↔ a = b := by
  rw [cmp_lt, cmp_lt, Prod.ext_iff]; omega
theorem cmp_trans {a b c : ID} (h1 : cmpID a b < 0) (h2 : cmpID b c < 0) : cmpID a c < 0 := by
  rw [cmp_lt] at *; omega
theorem cmp_asymm {a b : ID} (h1 : cmpID a b < 0) : ¬ cmpID b a < 0 := by
  rw [cmp_lt] at *; omega
theorem cmp_irrefl (a : ID) : ¬ cmpID a a < 0 := by rw [cmp_lt]; omega
/-- strictly increasing -/
def SI (l : List ID) : Prop := l.Pairwise fun a b => cmpID a b < 0
theorem SI_unique : ∀ {l r : List ID}, SI l → SI r → (∀ x, x ∈ l ↔ x ∈ r) → l = r
  | [], [], _, _, _ => rfl
  | [], y :: r, _, _, h => by have := (h y).2 (by simp); simp at this
  | x :: l, [], _, _, h => by have := (h x).1 (by simp); simp at this
  | x :: l, y :: r, hl, hr, h => by
    have hl' := List.pairwise_cons.1 hl
    have hr' := List.pairwise_cons.1 hr
    have hxy : x = y := by
      rcases List.mem_cons.1 ((h x).1 (by simp)) with e | e
      · exact e
      · rcases List.mem_cons.1 ((h y).2 (by simp)) with e2 | e2
        · exact e2.symm
        · exact absurd (hr'.1 x e) (cmp_asymm (hl'.1 y e2))
    subst hxy
    congr 1
    refine SI_unique hl'.2 hr'.2 fun z => ⟨fun hz => ?_, fun hz => ?_⟩
    · rcases List.mem_cons.1 ((h z).1 (by simp [hz])) with e | e
      · subst e; exact absurd (hl'.1 z hz) (cmp_irrefl z)
      · exact e
    · rcases List.mem_cons.1 ((h z).2 (by simp [hz])) with e | e
      · subst e; exact absurd (hr'.1 z hz) (cmp_irrefl z)
      · exact e
def putI : List ID → ID → List ID
  | [], x => [x]
  | y :: l, x => if cmpID y x < 0 then y :: putI l x else if y = x then y :: l else x :: y :: l
theorem mem_putI {x z : ID} : ∀ {l : List ID}, z ∈ putI l x ↔ z = x ∨ z ∈ l
  | [] => by simp [putI]
  | y :: l => by
    simp only [putI]
    split
    · simp only [List.mem_cons, mem_putI (l := l)]
      constructor
      · rintro (h | h | h)
        · exact .inr (.inl h)
        · exact .inl h
        · exact .inr (.inr h)
      · rintro (h | h | h)
        · exact .inr (.inl h)
        · exact .inl h
        · exact .inr (.inr h)
    · split
      · rename_i h; subst h; simp
      · simp
theorem SI_putI {x : ID} : ∀ {l : List ID}, SI l → SI (putI l x)
  | [], _ => by simp [putI, SI]
  | y :: l, h => by
    have h' := List.pairwise_cons.1 h
    simp only [putI]
    split
    · rename_i hlt
      refine List.pairwise_cons.2 ⟨fun z hz => ?_, SI_putI h'.2⟩
      rcases mem_putI.1 hz with e | e
      · subst e; exact hlt
      · exact h'.1 z e
    · rename_i hlt
      split
      · exact h
      · rename_i hne
        have hx : cmpID x y < 0 := Decidable.byContradiction fun hc => hne (cmp_eq.1 ⟨hlt, hc⟩)
        refine List.pairwise_cons.2 ⟨fun z hz => ?_, h⟩
        rcases List.mem_cons.1 hz with e | e
        · subst e; exact hx
        · exact cmp_trans hx (h'.1 z e)
def setL (xs : List ID) : List ID := xs.foldl putI []
theorem foldl_putI (xs : List ID) : ∀ l : List ID, SI l → SI (xs.foldl putI l) ∧ ∀ z, z ∈ xs.foldl putI l ↔ z ∈ l ∨ z ∈ xs := by
  induction xs with
  | nil => intro l h; exact ⟨h, by simp⟩
  | cons x xs ih =>
    intro l h
    obtain ⟨h1, h2⟩ := ih (putI l x) (SI_putI h)
    refine ⟨h1, fun z => ?_⟩
    rw [List.foldl_cons, h2, mem_putI]
    simp only [List.mem_cons]
    constructor
    · rintro ((h | h) | h)
      · exact .inr (.inl h)
      · exact .inl h
      · exact .inr (.inr h)
    · rintro (h | h | h)
      · exact .inl (.inr h)
      · exact .inl (.inl h)
      · exact .inr h
theorem putI_length (x : ID) : ∀ l : List ID, (putI l x).length ≤ l.length + 1
  | [] => by simp [putI]
  | y :: l => by
    have := putI_length x l
    simp only [putI]
    repeat' split
    all_goals simp only [List.length_cons]
    all_goals omega
theorem foldl_putI_length (xs : List ID) : ∀ l : List ID, (xs.foldl putI l).length ≤ l.length + xs.length := by
  induction xs with
  | nil => intro l; simp
  | cons x xs ih => intro l; have h1 := ih (putI l x); have h2 := putI_length x l; simp only [List.foldl_cons, List.length_cons]; omega
theorem setL_length (xs : List ID) : (setL xs).length ≤ xs.length := by have := foldl_putI_length xs []; rw [setL]; simpa using this
theorem SI_setL (xs : List ID) : SI (setL xs) := (foldl_putI xs [] List.Pairwise.nil).1
theorem mem_setL {xs : List ID} {z : ID} : z ∈ setL xs ↔ z ∈ xs := by have := (foldl_putI xs [] List.Pairwise.nil).2 z; rw [setL]; simpa using this
theorem mem_compactL {z : ID} : ∀ {l : List ID}, z ∈ compactL l ↔ z ∈ l
  | [] => by simp [compactL]
  | [x] => by simp [compactL]
  | x :: y :: r => by
    rw [compactL]
    split
    · rename_i h; subst h; rw [mem_compactL]; simp
    · rw [List.mem_cons, mem_compactL]; simp
theorem SI_compactL : ∀ {l : List ID}, l.Pairwise (fun x y => ¬ cmpID y x < 0) → SI (compactL l)
  | [], _ => by simp [compactL, SI]
  | [x], _ => by simp [compactL, SI]
  | x :: y :: r, h => by
    have h' := List.pairwise_cons.1 h
    rw [compactL]
    split
    · exact SI_compactL h'.2
    · rename_i hne
      have hxy : cmpID x y < 0 := Decidable.byContradiction fun hc => hne (cmp_eq.1 ⟨hc, h'.1 y (by simp)⟩)
      have h2 := List.pairwise_cons.1 h'.2
      refine List.pairwise_cons.2 ⟨fun z hz => ?_, SI_compactL h'.2⟩
      rw [mem_compactL] at hz
      rcases List.mem_cons.1 hz with e | e
      · subst e; exact hxy
      · by_cases hyz : y = z
        · subst hyz; exact hxy
        · have : cmpID y z < 0 := Decidable.byContradiction fun hc => hyz (cmp_eq.1 ⟨hc, h2.1 z e⟩)
          exact cmp_trans hxy this
theorem compact_set {xs ys : List ID} (hp : ys.Perm xs) (hs : ys.Pairwise fun x y => ¬ cmpID y x < 0) : compactL ys = setL xs :=
  SI_unique (SI_compactL hs) (SI_setL xs) fun z => by rw [mem_compactL, mem_setL, hp.mem_iff]
def minusL (a b : List ID) : List ID := (setL a).filter fun x => !decide (x ∈ b)
theorem SI_filter {l : List ID} {p : ID → Bool} (h : SI l) : SI (l.filter p) := List.Pairwise.sublist (List.filter_sublist) h
theorem SWO_cmp : Go.Sort.SWO (Go.Proofs.ltOf cmpID) where
  irrefl x := by simpa [Go.Proofs.ltOf] using cmp_irrefl x
  trans x y z h1 h2 := by simp only [Go.Proofs.ltOf, decide_eq_true_eq] at *; exact cmp_trans h1 h2
  ntrans x y z h1 h2 := by simp only [Go.Proofs.ltOf, decide_eq_false_iff_not, cmp_lt] at *; omega
attribute [local irreducible] setL minusL compactL putI
end Go.Proofs.YtfhoecgiahpddaaGreat
/-
  CONTRACTS: identity.Set, Minus.
-/
set_option linter.all false
namespace Go.Proofs.YtfhoecgiahpddaaGreat
open Go.Mesh Go.RowKit
set_option maxRecDepth 100000
set_option linter.unusedVariables false
set_option maxHeartbeats 4000000
attribute [local irreducible] WP OPS ANY ANYo LG LV FSpec PSpec QOP OPc OPw thenQ blockQ roundQ roundF retQ retM Rd At SLB OS cmpI orI cmpID namedB valB nodeB kindB validG valAux idxI findG zeroV viewOf vwAt idxOf recv flyB scionOf moveOf numberedOf idOf valueOf mget mput localB carriedB stubOf followF followOf flOf flightsOf flPre setL minusL compactL putI
theorem sortID_s {h : Frag} {p : Option Addr} {c g : Nat} {xs : List ID} {M : Hp} (hs : OS h 35 2 IDC (.slice p xs.length c) xs M) (hxl : xs.length ≤ 4398046511104) (hg : callOk Tryz.prog g = true)
    (hc : ∀ x y, PSpec Tryz.prog g #[.agg (idc x).toArray, .agg (idc y).toArray] h (fun _ u => u = .int .i64 (cmpID x y))) : FSpec Tryz.prog 84 #[.slice p xs.length c, .func (.func g) #[] #[]] h M
    (fun h' L' v => h' = h ∧ v = .tuple #[] ∧ ∃ ys : List ID, ys.Perm xs ∧ ys.length = xs.length ∧ ys.Pairwise (fun x y => ¬ cmpID y x < 0) ∧ OS h 35 2 IDC (.slice p xs.length c) ys L') := by
  by_cases h0 : 0 < xs.length
  · obtain ⟨b, cap, rest, e, rfl, hcap, hrl⟩ := hs.parts h0
    cases e
    have h1 := sort_spec (P := Tryz.prog) (ρ := Tryz.sortID_ren) (k := 2) (enc := idc) (cf := cmpID) (e := 35) (b := b) (cap := c) Tryz.sortID Tryz.isAgg35 Tryz.sizeOf35 (fun _ => rfl) (fun x v hv => by simp [idc] at hv; rcases hv with rfl | rfl <;> rfl) SWO_cmp hg hc xs rest (by omega)
    refine FSpec.mono h1 fun h' L' v _ ⟨e1, e2, d', hp, hpw, e3⟩ => ⟨e1, e2, d', hp, hp.length_eq, hpw, ?_⟩
    subst e3
    have hl := hp.length_eq
    have hfl : (flatI d').length = (flatI xs).length := by rw [flatI_length, flatI_length, hl]
    exact OS.make hl.symm (by omega) (by omega)
  · have hx : xs = [] := List.eq_nil_of_length_eq_zero (by omega)
    subst hx
    refine FSpec.mono (sort_none Tryz.sortID p c (.func (.func g) #[] #[]) h M) fun h' L' v _ ⟨e1, e2, e3⟩ => ⟨e1, e2, [], List.Perm.refl _, rfl, List.Pairwise.nil, ?_⟩
    subst e3; exact hs
theorem set_s {h : Frag} {a : Value} {xs : List ID} (hx : SL h 2 IDC a xs) : FSpec Tryz.prog 42 #[a] h [] (fun h' L' v => ∃ p c, v = .slice p (setL xs).length c ∧ OS h' 35 2 IDC (.slice p (setL xs).length c) (setL xs) L') := by
  have hxl := hx.le
  obtain ⟨p, cap, rfl⟩ := hx.slice
  refine spec_of (vs := [.slice p xs.length cap]) Tryz.func42 Tryz.ntmps42 rfl rfl rfl ?_
  (focus (refine Wr ?_; refine Sm rfl ?_; refine On ?_; refine Wr ?_; refine Sm rfl ?_; refine S_w rfl rfl rfl (W_callF [] _ (cloneID_s ‹_›) rfl rfl ⟨_, _, rfl, rfl, rfl⟩ (cal rfl) rfl ?_); rintro h0_1 m0_1 _ l0_1 ⟨p0_1, q0_1, rfl, o0_1⟩; replace hx := hx.up l0_1; refine Sm rfl ?_; refine On ?_; refine Wr ?_; refine Sm rfl ?_; refine S_w rfl rfl rfl (W_callF [] _ (sortID_s ‹_› (by omega) (cal rfl) (fun _ _ => compareID_s _ _ _)) rfl rfl ⟨_, _, rfl, ⟨_, _, rfl, rfl, rfl⟩, rfl⟩ (cal rfl) rfl ?_); rintro h0_2 m0_2 _ l0_2 ⟨e0_2, rfl, ys0_2, hp0_2, hn0_2, hs0_2, o0_2⟩; replace o0_1 := o0_1.up l0_2; replace hx := hx.up l0_2; replace o0_2 := o0_2.up l0_2; refine On ?_; refine Wr ?_; refine Sm rfl ?_; refine S_w rfl rfl rfl (W_callF [] _ (compact_s ‹_› (by omega)) rfl rfl ⟨_, _, rfl, rfl, rfl⟩ (cal rfl) rfl ?_); rintro h0_3 m0_3 _ l0_3 ⟨e0_3, p0_3, q0_3, rfl, o0_3⟩; replace o0_1 := o0_1.up l0_3; replace hx := hx.up l0_3; replace o0_2 := o0_2.up l0_3; refine Sm rfl ?_; refine On ?_; refine WP_ret ?_))
  rw [compact_set hp0_2 hs0_2] at o0_3
  rw [compact_set hp0_2 hs0_2]
  exact ret_q m0_3 (.inl rfl) rfl ⟨_, _, rfl, rfl, rfl⟩ (by repeat' first | exact sR _ | exact sA _ _ | exact sN _ | apply s2 | apply s1) ⟨_, _, rfl, o0_3⟩
theorem minus1_s {h : Frag} {a : Value} {b : Nat} {xs : List ID} {x : ID} (ha : At h b 0 [a]) (hx : SL h 2 IDC a xs) : PSpec Tryz.prog 89 #[.agg (idc x).toArray, ptr b 0] h (fun _ v => v = .bool (decide (x ∈ xs))) := by
  obtain ⟨x1, x2⟩ := x
  refine pspec_of (vs := [.agg (idc (x1, x2)).toArray, ptr b 0]) Tryz.func89 Tryz.ntmps89 rfl rfl ?_
  (focus (refine Wr ?_; refine S_c rfl rfl rfl (C_box rfl rfl ?_); intro b0_1; refine Sm rfl ?_; refine On ?_; refine Wr ?_; refine S_load rfl rfl rfl rfl rfl ?_; refine L_one (Rd.pers ‹_›) (ty rfl) ?_; refine S_load rfl rfl rfl rfl rfl ?_; refine L_agg (Rd.own m0) (ty rfl) (by first | rfl | assumption) ?_; refine S_c rfl rfl rfl (C_callv (has_s (x := (_, _)) ‹_›) rfl rfl ⟨_, _, rfl, ⟨_, _, rfl, rfl, rfl⟩, rfl⟩ (cal rfl) ?_); refine Sm rfl ?_; refine On ?_; refine WP_ret ?_))
  refine pret (.inl rfl) rfl ⟨_, _, rfl, rfl, rfl⟩ ?_
  rfl
theorem minus_s {h : Frag} {a b : Value} {xs ys : List ID} (hx : SL h 2 IDC a xs) (hy : SL h 2 IDC b ys) : FSpec Tryz.prog 41 #[a, b] h [] (fun h' L' v => ∃ p c, v = .slice p (minusL xs ys).length c ∧ OS h' 35 2 IDC (.slice p (minusL xs ys).length c) (minusL xs ys) L') := by
  obtain ⟨pa, ca, rfl⟩ := hx.slice
  obtain ⟨pb, cb, rfl⟩ := hy.slice
  refine spec_of (vs := [.slice pa xs.length ca, .slice pb ys.length cb]) Tryz.func41 Tryz.ntmps41 rfl rfl rfl ?_
  (focus (refine Wr ?_; refine S_c rfl rfl rfl (C_box1 rfl rfl rfl ?_); intro b0_1; refine Sm rfl ?_; refine On ?_; refine Wr ?_; refine Sm rfl ?_; refine S_w rfl rfl rfl (W_callF [] _ (set_s ‹_›) rfl rfl ⟨_, _, rfl, rfl, rfl⟩ (cal rfl) rfl ?_); rintro h0_2 m0_2 _ l0_2 ⟨p0_2, q0_2, rfl, o0_2⟩; replace hx := hx.up l0_2; replace hy := hy.up l0_2; refine S_q rfl rfl rfl (Q_makeFunc rfl rfl ⟨_, _, rfl, rfl, rfl⟩) ?_))
  have hsl := setL_length xs
  have hxl := hx.le
  refine OPS_keepM m0_2 [_] [] rfl fun h2 l2 k2 => ?_
  have a2 := at_of_keep k2
  have hy2 := hy.up l2
  have o2 := o0_2.up l2
  refine S_w rfl rfl rfl (W_callF (M := m0_2) [] _ (deleteFunc_s (cap := [ptr b0_1 0]) (p := fun x => decide (x ∈ ys)) o2 (by omega) (cal rfl) fun h' hl x => minus1_s (a2.mono hl) (hy2.up hl)) rfl rfl ⟨_, _, rfl, ⟨_, _, rfl, rfl, rfl⟩, rfl⟩ (cal rfl) rfl ?_)
  rintro h3 M3 _ l3 ⟨e3, p3, c3, rfl, o3⟩
  (focus (refine Sm rfl ?_; refine On ?_; refine WP_ret ?_))
  unfold minusL
  exact ret_q M3 (.inl rfl) rfl ⟨_, _, rfl, rfl, rfl⟩ (by repeat' first | exact sR _ | exact sA _ _ | exact sN _ | apply s2 | apply s1) ⟨_, _, rfl, o3⟩
end Go.Proofs.YtfhoecgiahpddaaGreat
/-
  THE UNION OF GRAPHS, in plain words: nodes put one after the other into a list that increases strictly by identity.
-/
set_option linter.all false
namespace Go.Proofs.YtfhoecgiahpddaaGreat
open Go.Mesh Go.RowKit
set_option maxRecDepth 100000
set_option linter.unusedVariables false
set_option maxHeartbeats 4000000
attribute [local irreducible] WP OPS ANY ANYo LG LV FSpec PSpec QOP OPc OPw thenQ blockQ roundQ roundF retQ retM Rd At SLB OS cmpI orI cmpID namedB valB nodeB kindB validG valAux idxI findG zeroV viewOf vwAt idxOf recv flyB scionOf moveOf numberedOf idOf valueOf mget mput localB carriedB stubOf followF followOf flOf flightsOf flPre setL minusL compactL putI
def mergeN (o n : Nd) : Option Nd :=
  if (o.kind == 3) = (n.kind == 3) then (if o = n then some o else none) else if o.cls = n.cls then some (if o.kind = 3 then n else o) else none
def insN : List Nd → Nd → Option (List Nd)
  | [], n => some [n]
  | y :: l, n => if cmpID y.id n.id < 0 then (insN l n).map (y :: ·) else if y.id = n.id then (mergeN y n).map (· :: l) else some (n :: y :: l)
/-- strictly increasing by identity -/
def SN (l : List Nd) : Prop := l.Pairwise fun a b => cmpID a.id b.id < 0
theorem mergeN_id {o n m : Nd} (h : mergeN o n = some m) (hi : o.id = n.id) : m.id = o.id := by
  unfold mergeN at h
  split at h
  · split at h
    · cases h; rfl
    · cases h
  · split at h
    · cases h; split
      · exact hi.symm
      · rfl
    · cases h
theorem findG_none_of_lt {l : List Nd} {id : ID} (h : ∀ x, x ∈ l → x.id ≠ id) : findG l id = none := by
  unfold findG; rw [List.find?_eq_none]; intro x hx; simp [h x hx]
theorem findG_cons (y : Nd) (l : List Nd) (id : ID) : findG (y :: l) id = if y.id = id then some y else findG l id := by
  unfold findG
  rw [List.find?_cons]
  by_cases h : y.id = id <;> simp [h]
theorem findG_some {l : List Nd} {id : ID} {n : Nd} (h : findG l id = some n) : n ∈ l ∧ n.id = id := by
  unfold findG at h
  exact ⟨List.mem_of_find?_eq_some h, by simpa using List.find?_some h⟩
theorem findG_mem {l : List Nd} (hs : SN l) {n : Nd} (h : n ∈ l) : findG l n.id = some n := by
  induction l with
  | nil => cases h
  | cons y l ih =>
    have h' := List.pairwise_cons.1 hs
    rw [findG_cons]
    rcases List.mem_cons.1 h with e | e
    · subst e; simp
    · have := h'.1 n e
      rw [if_neg (fun e' => by rw [e'] at this; exact cmp_irrefl _ this)]
      exact ih h'.2 e
/-- what putting a node does -/
theorem insN_spec : ∀ {l : List Nd} {n : Nd}, SN l → match findG l n.id with
    | none => ∃ l', insN l n = some l' ∧ SN l' ∧ l'.length = l.length + 1 ∧ (∀ z, z ∈ l' → z = n ∨ z ∈ l) ∧ ∀ id, findG l' id = if id = n.id then some n else findG l id
    | some o => match mergeN o n with
      | none => insN l n = none
      | some m => ∃ l', insN l n = some l' ∧ SN l' ∧ l'.length = l.length ∧ (∀ z, z ∈ l' → z = m ∨ z ∈ l) ∧ ∀ id, findG l' id = if id = n.id then some m else findG l id
  | [], n, _ => by
    have : findG [] n.id = none := by unfold findG; rfl
    rw [this]
    refine ⟨[n], rfl, by simp [SN], rfl, by simp, fun id => ?_⟩
    rw [findG_cons]
    by_cases h : n.id = id
    · simp [h]
    · rw [if_neg h, if_neg (Ne.symm h)]
  | y :: l, n, hs => by
    have h' := List.pairwise_cons.1 hs
    have ih := insN_spec (l := l) (n := n) h'.2
    rw [findG_cons]
    by_cases hlt : cmpID y.id n.id < 0
    · have hne : y.id ≠ n.id := fun e => by rw [e] at hlt; exact cmp_irrefl _ hlt
      rw [if_neg hne]
      have key : ∀ (m : Nd) (l' : List Nd), m.id = n.id → SN l' → (∀ z, z ∈ l' → z = m ∨ z ∈ l) → (∀ id, findG l' id = if id = n.id then some m else findG l id) → SN (y :: l') ∧ (∀ z, z ∈ y :: l' → z = m ∨ z ∈ y :: l) ∧ ∀ id, findG (y :: l') id = if id = n.id then some m else findG (y :: l) id := by
        intro m l' hm h1 h2 h3
        refine ⟨List.pairwise_cons.2 ⟨fun z hz => ?_, h1⟩, fun z hz => ?_, fun id => ?_⟩
        · rcases h2 z hz with e | e
          · subst e; rw [hm]; exact hlt
          · exact h'.1 z e
        · rcases List.mem_cons.1 hz with e | e
          · exact .inr (by simp [e])
          · exact (h2 z e).imp id fun e => by simp [e]
        · rw [findG_cons, findG_cons, h3]
          by_cases hid : y.id = id
          · subst hid; rw [if_pos rfl, if_neg hne, if_pos rfl]
          · rw [if_neg hid, if_neg hid]
      cases hf : findG l n.id with
      | none =>
        rw [hf] at ih
        obtain ⟨l', e1, e2, e3, e4, e5⟩ := ih
        obtain ⟨k1, k2, k3⟩ := key n l' rfl e2 e4 e5
        exact ⟨y :: l', by simp [insN, hlt, e1], k1, by simp [e3], k2, k3⟩
      | some o =>
        rw [hf] at ih
        simp only at ih ⊢
        cases hm : mergeN o n with
        | none => rw [hm] at ih; simp only at ih ⊢; simp [insN, hlt, ih]
        | some m =>
          rw [hm] at ih
          obtain ⟨l', e1, e2, e3, e4, e5⟩ := ih
          have hoi := (findG_some hf).2
          obtain ⟨k1, k2, k3⟩ := key m l' ((mergeN_id hm hoi).trans hoi) e2 e4 e5
          exact ⟨y :: l', by simp [insN, hlt, e1], k1, by simp [e3], k2, k3⟩
    · by_cases he : y.id = n.id
      · rw [if_pos he]
        simp only
        cases hm : mergeN y n with
        | none => simp only; simp [insN, hlt, he, hm]; exact fun h => absurd h (cmp_irrefl _)
        | some m =>
          have hmi := mergeN_id hm he
          refine ⟨m :: l, ?_, List.pairwise_cons.2 ⟨fun z hz => by rw [hmi]; exact h'.1 z hz, h'.2⟩, rfl, fun z hz => ?_, fun id => ?_⟩
          · simp only [insN]; rw [if_neg hlt, if_pos he, hm]; rfl
          · rcases List.mem_cons.1 hz with e | e
            · exact .inl e
            · exact .inr (by simp [e])
          · rw [findG_cons, findG_cons, hmi, he]
            by_cases hid : n.id = id
            · rw [if_pos hid, if_pos hid.symm]
            · rw [if_neg hid, if_neg (Ne.symm hid), if_neg hid]
      · rw [if_neg he]
        have hny : cmpID n.id y.id < 0 := Decidable.byContradiction fun hc => he (cmp_eq.1 ⟨hlt, hc⟩)
        have hn0 : findG l n.id = none := findG_none_of_lt fun x hx e => by
          have := cmp_trans hny (h'.1 x hx); rw [e] at this; exact cmp_irrefl _ this
        rw [hn0]
        refine ⟨n :: y :: l, by simp [insN, hlt, he], List.pairwise_cons.2 ⟨fun z hz => ?_, hs⟩, rfl, fun z hz => ?_, fun id => ?_⟩
        · rcases List.mem_cons.1 hz with e | e
          · subst e; exact hny
          · exact cmp_trans hny (h'.1 z e)
        · rcases List.mem_cons.1 hz with e | e
          · exact .inl e
          · exact .inr e
        · rw [findG_cons n]
          by_cases hid : n.id = id
          · rw [if_pos hid, if_pos hid.symm]
          · rw [if_neg hid, if_neg (Ne.symm hid)]
def insAll : List Nd → List Nd → Option (List Nd)
  | acc, [] => some acc
  | acc, n :: r => match insN acc n with | none => none | some a => insAll a r
def resU : Option (List Nd) → List Nd × Int
  | none => ([], 9)
  | some ns => (ns, 0)
def unionR (l : List (List Nd)) : List Nd × Int := if l.all validG then resU (insAll [] l.flatten) else ([], 1)
theorem insAll_drop {acc l : List Nd} {k : Nat} {x : Nd} (hx : l[k]? = some x) : insAll acc (l.drop k) = match insN acc x with | none => none | some a => insAll a (l.drop (k + 1)) := by
  rw [drop_get hx, insAll]
attribute [local irreducible] mergeN insN insAll unionR
theorem SN_unique : ∀ {l r : List Nd}, SN l → SN r → (∀ x, x ∈ l ↔ x ∈ r) → l = r
  | [], [], _, _, _ => rfl
  | [], y :: r, _, _, h => by have := (h y).2 (by simp); simp at this
  | x :: l, [], _, _, h => by have := (h x).1 (by simp); simp at this
  | x :: l, y :: r, hl, hr, h => by
    have hl' := List.pairwise_cons.1 hl
    have hr' := List.pairwise_cons.1 hr
    have hxy : x = y := by
      rcases List.mem_cons.1 ((h x).1 (by simp)) with e | e
      · exact e
      · rcases List.mem_cons.1 ((h y).2 (by simp)) with e2 | e2
        · exact e2.symm
        · exact absurd (hr'.1 x e) (cmp_asymm (hl'.1 y e2))
    subst hxy
    congr 1
    refine SN_unique hl'.2 hr'.2 fun z => ⟨fun hz => ?_, fun hz => ?_⟩
    · rcases List.mem_cons.1 ((h z).1 (by simp [hz])) with e | e
      · subst e; exact absurd (hl'.1 z hz) (cmp_irrefl _)
      · exact e
    · rcases List.mem_cons.1 ((h z).2 (by simp [hz])) with e | e
      · subst e; exact absurd (hr'.1 z hz) (cmp_irrefl _)
      · exact e
end Go.Proofs.YtfhoecgiahpddaaGreat
/-
  CONTRACTS: nodes sorted by their identities.
-/
set_option linter.all false
namespace Go.Mesh
theorem OSn.parts {h : Frag} {v : Value} {xs : List Nd} {M : Hp} (s : OS h 38 5 (NodeC 4398046511104) v xs M) (h0 : 0 < xs.length) : ∃ b cap us rest, v = .slice (some ⟨b, 0, none⟩) xs.length cap ∧ M = [(b, cells (us ++ rest) 38)] ∧ xs.length ≤ cap ∧ us.length + rest.length = cap * 5 ∧ Flat h 5 (NodeC 4398046511104) xs us := by
  obtain ⟨us, ⟨hu, ⟨rfl, h1, _⟩ | ⟨b, cap, rest, rfl, rfl, h2, h3⟩⟩, f⟩ := s
  · omega
  · exact ⟨b, cap, us, rest, rfl, rfl, h3, h2, f⟩
theorem OSn.make {h : Frag} {b n cap : Nat} {xs : List Nd} {us rest : List Value} (hn : n = xs.length) (hc : xs.length ≤ cap) (hl : us.length + rest.length = cap * 5) (f : Flat h 5 (NodeC 4398046511104) xs us) : OS h 38 5 (NodeC 4398046511104) (.slice (some ⟨b, 0, none⟩) n cap) xs [(b, cells (us ++ rest) 38)] := by
  subst hn
  exact ⟨us, ⟨f.length, .inr ⟨b, cap, rest, rfl, rfl, hl, hc⟩⟩, f⟩
/-- a node with its cells -/
abbrev NdC (h : Frag) := { q : Nd × List Value // NodeC 4398046511104 h q.1 q.2 ∧ q.2.length = 5 ∧ ones q.2 = true }
instance (h : Frag) : Inhabited (NdC h) := ⟨⟨(⟨(0, 0), 0, 0, []⟩, [.int .i64 0, .int .i64 0, .int .i64 0, .int .i64 0, .slice none 0 0]), ⟨none, 0, rfl, SLB.nil _ _ _ _ _ _⟩, rfl, rfl⟩⟩
theorem ndc_of {h : Frag} : ∀ {xs : List Nd} {us : List Value}, Flat h 5 (NodeC 4398046511104) xs us → ∃ d : List (NdC h), d.map (·.1.1) = xs ∧ d.flatMap (·.1.2) = us
  | [], _, e => ⟨[], rfl, by cases e; rfl⟩
  | x :: xs, _, ⟨vs, ws, e1, e2, e3, e4, e5⟩ => by
    obtain ⟨d, h1, h2⟩ := ndc_of e5
    exact ⟨⟨(x, vs), e4, e2, e3⟩ :: d, by simp [h1], by simp [h2, e1]⟩
theorem ndc_flat {h : Frag} : ∀ d : List (NdC h), Flat h 5 (NodeC 4398046511104) (d.map (·.1.1)) (d.flatMap (·.1.2))
  | [] => rfl
  | q :: d => ⟨q.1.2, d.flatMap (·.1.2), rfl, q.2.2.1, q.2.2.2, q.2.1, ndc_flat d⟩
end Go.Mesh
namespace Go.Proofs.YtfhoecgiahpddaaGreat
open Go.Mesh Go.RowKit
set_option maxRecDepth 100000
set_option linter.unusedVariables false
set_option maxHeartbeats 4000000
attribute [local irreducible] WP OPS ANY ANYo LG LV FSpec PSpec QOP OPc OPw thenQ blockQ roundQ roundF retQ retM Rd At SLB OS cmpI orI cmpID namedB valB nodeB kindB validG valAux idxI findG zeroV viewOf vwAt idxOf recv flyB scionOf moveOf numberedOf idOf valueOf mget mput localB carriedB stubOf followF followOf flOf flightsOf flPre setL minusL compactL putI
theorem sortNd_s {h : Frag} {p : Option Addr} {c : Nat} {xs : List Nd} {M : Hp} (hs : OS h 38 5 (NodeC 4398046511104) (.slice p xs.length c) xs M) (hxl : xs.length ≤ 4398046511104) : FSpec Tryz.prog 80 #[.slice p xs.length c, .func (.func 81) #[] #[]] h M
    (fun h' L' v => h' = h ∧ v = .tuple #[] ∧ ∃ ys : List Nd, ys.Perm xs ∧ ys.Pairwise (fun x y => ¬ cmpID y.id x.id < 0) ∧ OS h 38 5 (NodeC 4398046511104) (.slice p ys.length c) ys L') := by
  by_cases h0 : 0 < xs.length
  · obtain ⟨b, cap, us, rest, e, rfl, hcap, hrl, hf⟩ := OSn.parts hs h0
    cases e
    obtain ⟨d, rfl, rfl⟩ := ndc_of hf
    have hdl : (d.map (·.1.1)).length = d.length := List.length_map _
    have h1 := sort_spec (α := NdC h) (P := Tryz.prog) (ρ := Tryz.sortNd_ren) (k := 5) (enc := fun q => q.1.2) (cf := fun q r => cmpID q.1.1.id r.1.1.id) (e := 38) (b := b) (cap := c) (h := h) Tryz.sortNd Tryz.isAgg38 Tryz.sizeOf38 (fun q => q.2.2.1) (fun q v hv => ones_mem q.2.2.2 v hv)
      { irrefl := fun x => SWO_cmp.irrefl _, trans := fun x y z => SWO_cmp.trans _ _ _, ntrans := fun x y z => SWO_cmp.ntrans _ _ _ } (g := 81) (cal rfl) (fun x y => compare_s x.2.1 y.2.1) d rest (by omega)
    rw [hdl]
    refine FSpec.mono h1 fun h' L' v _ ⟨e1, e2, d', hp, hpw, e3⟩ => ⟨e1, e2, d'.map (·.1.1), hp.map _, List.pairwise_map.2 hpw, ?_⟩
    subst e3
    have hl := hp.length_eq
    have hf' := ndc_flat d'
    have hl1 := hf.length
    have hl2 := hf'.length
    simp only [List.length_map] at hl1 hl2 ⊢
    refine OSn.make (by simp) (by simp; omega) (by omega) hf'
  · have hx : xs = [] := List.eq_nil_of_length_eq_zero (by omega)
    subst hx
    refine FSpec.mono (sort_none Tryz.sortNd p c (.func (.func 81) #[] #[]) h M) fun h' L' v _ ⟨e1, e2, e3⟩ => ⟨e1, e2, [], List.Perm.refl _, List.Pairwise.nil, ?_⟩
    subst e3; exact hs
end Go.Proofs.YtfhoecgiahpddaaGreat
/-
  CONTRACTS: shape.Union.
-/
set_option linter.all false
namespace Go.Proofs.YtfhoecgiahpddaaGreat
open Go.Mesh Go.RowKit
set_option maxRecDepth 100000
set_option linter.unusedVariables false
set_option maxHeartbeats 4000000
attribute [local irreducible] WP OPS ANY ANYo LG LV FSpec PSpec QOP OPc OPw thenQ blockQ roundQ roundF retQ retM Rd At SLB OS cmpI orI cmpID namedB valB nodeB kindB validG valAux idxI findG zeroV viewOf vwAt idxOf recv flyB scionOf moveOf numberedOf idOf valueOf mget mput localB carriedB stubOf followF followOf flOf flightsOf flPre setL minusL compactL putI mergeN insN insAll unionR
/-- the map of nodes, and the list that it stands for -/
def NMap (h : Frag) (ps : List (ID × Value)) (ns : List Nd) : Prop := (ps.map (·.1)).Nodup ∧ SN ns ∧ ps.length = ns.length ∧ ∀ id, match mget id ps with
  | none => findG ns id = none
  | some v => ∃ p c n, v = .agg [Value.int .i64 n.id.1, .int .i64 n.id.2, .int .i64 n.kind, .int .i64 n.cls, .slice p n.fields.length c].toArray ∧ SLB 4398046511104 h 4 ValC (.slice p n.fields.length c) n.fields ∧ findG ns id = some n
theorem mput_keys (k : ID) (v : Value) : ∀ ps : List (ID × Value), (mput k v ps).map (·.1) = if (mget k ps).isSome then ps.map (·.1) else ps.map (·.1) ++ [k]
  | [] => by simp [mput, mget]
  | (q, u) :: ps => by
    simp only [mput, mget]
    by_cases h : q = k
    · simp [h]
    · simp only [if_neg h, List.map_cons, mput_keys k v ps]
      split <;> simp
theorem mget_none_keys {k : ID} : ∀ {ps : List (ID × Value)}, mget k ps = none → k ∉ ps.map (·.1)
  | [], _ => by simp
  | (q, u) :: ps, h => by
    simp only [mget] at h
    split at h
    · cases h
    · rename_i hq
      simp only [List.map_cons, List.mem_cons, not_or]
      exact ⟨Ne.symm hq, mget_none_keys h⟩
theorem NMap_nil (h : Frag) : NMap h [] [] := ⟨by simp, List.Pairwise.nil, rfl, fun id => by simp only [mget]; unfold findG; rfl⟩
abbrev ndv (n : Nd) (p : Option Addr) (c : Nat) : Value := .agg [Value.int .i64 n.id.1, .int .i64 n.id.2, .int .i64 n.kind, .int .i64 n.cls, .slice p n.fields.length c].toArray
theorem NMap_new {h : Frag} {ps : List (ID × Value)} {ns : List Nd} {n : Nd} {p : Option Addr} {c : Nat} (hN : NMap h ps ns) (hq : mget n.id ps = none) (hf : SLB 4398046511104 h 4 ValC (.slice p n.fields.length c) n.fields) :
    ∃ ns', insN ns n = some ns' ∧ ns'.length = ns.length + 1 ∧ NMap h (mput n.id (ndv n p c) ps) ns' := by
  obtain ⟨h1, h2, h3, h4⟩ := hN
  have h5 := h4 n.id
  rw [hq] at h5
  have h6 := insN_spec (n := n) h2
  rw [h5] at h6
  obtain ⟨ns', e1, e2, e3, e4, e5⟩ := h6
  have hk := mput_keys n.id (ndv n p c) ps
  rw [hq] at hk
  simp only [Option.isSome_none, Bool.false_eq_true, if_false] at hk
  refine ⟨ns', e1, e3, ?_, e2, ?_, fun id => ?_⟩
  · rw [hk, List.nodup_append]
    exact ⟨h1, by simp, fun a ha b hb e => by simp only [List.mem_singleton] at hb; subst hb; subst e; exact mget_none_keys hq ha⟩
  · have := congrArg List.length hk
    simp only [List.length_map, List.length_append, List.length_singleton] at this
    omega
  · rw [mget_mput, e5]
    by_cases hid : n.id = id
    · subst hid; simp only [if_true]; exact ⟨p, c, n, rfl, hf, rfl⟩
    · rw [if_neg hid, if_neg (Ne.symm hid)]; exact h4 id
theorem NMap_set {h : Frag} {ps : List (ID × Value)} {ns : List Nd} {n o m : Nd} {v : Value} {p : Option Addr} {c : Nat} (hN : NMap h ps ns) (hq : mget n.id ps = some v) (ho : findG ns n.id = some o) (hm : mergeN o n = some m) (hf : SLB 4398046511104 h 4 ValC (.slice p m.fields.length c) m.fields) :
    ∃ ns', insN ns n = some ns' ∧ ns'.length = ns.length ∧ NMap h (mput n.id (ndv m p c) ps) ns' := by
  obtain ⟨h1, h2, h3, h4⟩ := hN
  have h6 := insN_spec (n := n) h2
  rw [ho] at h6
  simp only [hm] at h6
  obtain ⟨ns', e1, e2, e3, e4, e5⟩ := h6
  have hk := mput_keys n.id (ndv m p c) ps
  rw [hq] at hk
  simp only [Option.isSome_some, if_true] at hk
  refine ⟨ns', e1, e3, by rw [hk]; exact h1, e2, ?_, fun id => ?_⟩
  · have := congrArg List.length hk
    simp only [List.length_map] at this
    omega
  · rw [mget_mput, e5]
    by_cases hid : n.id = id
    · subst hid; simp only [if_true]; exact ⟨p, c, m, rfl, hf, rfl⟩
    · rw [if_neg hid, if_neg (Ne.symm hid)]; exact h4 id
theorem NMap_keep {h : Frag} {ps : List (ID × Value)} {ns : List Nd} {n o : Nd} (hN : NMap h ps ns) (ho : findG ns n.id = some o) (hm : mergeN o n = some o) : ∃ ns', insN ns n = some ns' ∧ ns'.length = ns.length ∧ NMap h ps ns' := by
  obtain ⟨h1, h2, h3, h4⟩ := hN
  have h6 := insN_spec (n := n) h2
  rw [ho] at h6
  simp only [hm] at h6
  obtain ⟨ns', e1, e2, e3, e4, e5⟩ := h6
  refine ⟨ns', e1, e3, h1, e2, by omega, fun id => ?_⟩
  have := h4 id
  have h7 : findG ns' id = findG ns id := by
    rw [e5]; split
    · rename_i e; subst e; exact ho.symm
    · rfl
  rw [h7]; exact this
theorem NMap_err {h : Frag} {ps : List (ID × Value)} {ns : List Nd} {n o : Nd} (hN : NMap h ps ns) (ho : findG ns n.id = some o) (hm : mergeN o n = none) : insN ns n = none := by
  have h6 := insN_spec (n := n) hN.2.1
  rw [ho] at h6
  simpa only [hm] using h6
theorem NMap_get {h : Frag} {ps : List (ID × Value)} {ns : List Nd} {id : ID} {v : Value} (hN : NMap h ps ns) (hq : mget id ps = some v) : ∃ p c n, v = ndv n p c ∧ SLB 4398046511104 h 4 ValC (.slice p n.fields.length c) n.fields ∧ findG ns id = some n := by
  have := hN.2.2.2 id
  rw [hq] at this
  exact this
theorem NMap.up {h h' : Frag} {ps : List (ID × Value)} {ns : List Nd} (x : NMap h ps ns) (hl : le h h') : NMap h' ps ns := by
  refine ⟨x.1, x.2.1, x.2.2.1, fun id => ?_⟩
  have := x.2.2.2 id
  cases hq : mget id ps with
  | none => rw [hq] at this; exact this
  | some v =>
    rw [hq] at this
    obtain ⟨p, c, n, e1, e2, e3⟩ := this
    exact ⟨p, c, n, e1, e2.up hl, e3⟩
theorem nodup_subN : ∀ (l r : List Nat), l.Nodup → (∀ x, x ∈ l → x ∈ r) → l.length ≤ r.length
  | [], _, _, _ => by simp
  | x :: l, r, hn, hs => by
    rw [List.nodup_cons] at hn
    have hx := hs x (by simp)
    have := nodup_subN l (r.erase x) hn.2 (fun y hy => (List.mem_erase_of_ne (fun e : y = x => hn.1 (by rw [← e]; exact hy))).2 (hs y (by simp [hy])))
    have hl := List.length_erase_of_mem hx
    have : 0 < r.length := List.length_pos_of_mem hx
    simp; omega
theorem mget_at {ps : List (ID × Value)} (hn : (ps.map (·.1)).Nodup) {i : Nat} {k : ID} {v : Value} (h : ps[i]? = some (k, v)) : mget k ps = some v := by
  induction ps generalizing i with
  | nil => simp at h
  | cons p ps ih =>
    obtain ⟨q, u⟩ := p
    rw [List.map_cons, List.nodup_cons] at hn
    simp only [mget]
    cases i with
    | zero => simp at h; rw [if_pos h.1, h.2]
    | succ i =>
      have h2 : ps[i]? = some (k, v) := by simpa using h
      have : k ∈ ps.map (·.1) := List.mem_map.2 ⟨_, List.mem_of_getElem? h2, rfl⟩
      rw [if_neg (fun e => hn.1 (by rw [e]; exact this))]
      exact ih hn.2 h2
theorem mget_idx {ps : List (ID × Value)} {k : ID} {v : Value} (h : mget k ps = some v) : ∃ i : Nat, ps[i]? = some (k, v) := by
  induction ps with
  | nil => simp [mget] at h
  | cons p ps ih =>
    obtain ⟨q, u⟩ := p
    simp only [mget] at h
    split at h
    · rename_i e; cases h; exact ⟨0, by simp [e]⟩
    · obtain ⟨i, hi⟩ := ih h; exact ⟨i + 1, by simpa using hi⟩
/-- what has been collected of a map -/
def Coll (ps : List (ID × Value)) (ns : List Nd) (seen : List Nat) (outs : List Nd) : Prop := seen.Nodup ∧ (∀ i, i ∈ seen → i < ps.length) ∧ outs.length = seen.length ∧ ∀ t i : Nat, seen[t]? = some i → ∃ k v, ps[i]? = some (k, v) ∧ findG ns k = outs[t]?
theorem Coll_nil (ps : List (ID × Value)) (ns : List Nd) : Coll ps ns [] [] := ⟨List.nodup_nil, by simp, rfl, by simp⟩
theorem Coll_snoc {ps : List (ID × Value)} {ns : List Nd} {seen : List Nat} {outs : List Nd} (c : Coll ps ns seen outs) {i : Nat} {k : ID} {v : Value} {n : Nd} (hi : i ∉ seen) (hp : ps[i]? = some (k, v)) (hf : findG ns k = some n) : Coll ps ns (seen ++ [i]) (outs ++ [n]) := by
  obtain ⟨h1, h2, h3, h4⟩ := c
  refine ⟨?_, fun x hx => ?_, by simp [h3], fun t x hx => ?_⟩
  · rw [List.nodup_append]; exact ⟨h1, by simp, fun a ha b hb e => by simp at hb; subst hb; subst e; exact hi ha⟩
  · rcases List.mem_append.1 hx with hx | hx
    · exact h2 x hx
    · simp at hx; subst hx; exact (List.getElem?_eq_some_iff.1 hp).1
  · rw [List.getElem?_append] at hx
    split at hx
    · rename_i hlt
      obtain ⟨k', v', e1, e2⟩ := h4 t x hx
      exact ⟨k', v', e1, by rw [List.getElem?_append_left (by omega)]; exact e2⟩
    · rename_i hge
      have ht : t - seen.length = 0 := by
        have := (List.getElem?_eq_some_iff.1 hx).1; simp at this; omega
      rw [ht] at hx
      simp at hx; subst hx
      refine ⟨k, v, hp, ?_⟩
      have : t = outs.length := by omega
      subst this
      rw [List.getElem?_append_right (Nat.le_refl _)]; simpa using hf
theorem Coll_le {ps : List (ID × Value)} {ns : List Nd} {seen : List Nat} {outs : List Nd} (c : Coll ps ns seen outs) : seen.length ≤ ps.length := by
  have := nodup_subN seen (List.range ps.length) c.1 (fun x hx => List.mem_range.2 (c.2.1 x hx))
  simpa using this
theorem Coll_end {h : Frag} {ps : List (ID × Value)} {ns : List Nd} {seen : List Nat} {outs ys : List Nd} (hN : NMap h ps ns) (c : Coll ps ns seen outs) (hall : ∀ i, i < ps.length → i ∈ seen) (hp : ys.Perm outs) (hs : ys.Pairwise fun x y => ¬ cmpID y.id x.id < 0) : ys = ns := by
  obtain ⟨n1, n2, n3, n4⟩ := hN
  obtain ⟨c1, c2, c3, c4⟩ := c
  have hids : outs.Pairwise fun x y => x.id ≠ y.id := by
    rw [List.pairwise_iff_getElem]
    intro i j hi hj hij e
    have hsi : seen[i]? = some seen[i] := by simp
    have hsj : seen[j]? = some seen[j] := by simp
    obtain ⟨k1, v1, p1, f1⟩ := c4 i _ hsi
    obtain ⟨k2, v2, p2, f2⟩ := c4 j _ hsj
    rw [List.getElem?_eq_getElem hi] at f1
    rw [List.getElem?_eq_getElem hj] at f2
    have e1 := (findG_some f1).2
    have e2 := (findG_some f2).2
    have hk : k1 = k2 := by rw [← e1, ← e2, e]
    have hne : seen[i] ≠ seen[j] := fun e' => by
      have := (List.nodup_iff_pairwise_ne.1 c1)
      exact (List.pairwise_iff_getElem.1 this) i j (by omega) (by omega) hij e'
    have q1 : (ps.map (·.1))[seen[i]]? = some k1 := by simp [p1]
    have q2 : (ps.map (·.1))[seen[j]]? = some k2 := by simp [p2]
    obtain ⟨l1, g1⟩ := List.getElem?_eq_some_iff.1 q1
    obtain ⟨l2, g2⟩ := List.getElem?_eq_some_iff.1 q2
    have hinj := List.pairwise_iff_getElem.1 (List.nodup_iff_pairwise_ne.1 n1)
    rcases Nat.lt_or_gt_of_ne hne with hl | hl
    · exact hinj _ _ l1 l2 hl (by rw [g1, g2, hk])
    · exact hinj _ _ l2 l1 hl (by rw [g1, g2, hk])
  have hys : SN ys := by
    have h1 : ys.Pairwise fun x y => x.id ≠ y.id := hp.symm.pairwise hids (fun h => Ne.symm h)
    exact (hs.and h1).imp fun ⟨a, b⟩ => Decidable.byContradiction fun hc => b (cmp_eq.1 ⟨hc, a⟩)
  refine SN_unique hys n2 fun x => ?_
  rw [hp.mem_iff]
  constructor
  · intro hx
    obtain ⟨t, ht⟩ := List.getElem?_of_mem hx
    have hlt := (List.getElem?_eq_some_iff.1 ht).1
    obtain ⟨k, v, p1, f1⟩ := c4 t seen[t] (by simp)
    rw [ht] at f1
    exact (findG_some f1).1
  · intro hx
    have hf := findG_mem n2 hx
    have hq := n4 x.id
    cases hm : mget x.id ps with
    | none => rw [hm] at hq; rw [hq] at hf; cases hf
    | some v =>
      obtain ⟨i, hi⟩ := mget_idx hm
      obtain ⟨t, ht⟩ := List.getElem?_of_mem (hall i (List.getElem?_eq_some_iff.1 hi).1)
      obtain ⟨k', v', p1, f1⟩ := c4 t i ht
      rw [hi] at p1; cases p1
      rw [hf] at f1
      exact List.mem_of_getElem? f1.symm
theorem NMap.nodup {h : Frag} {ps : List (ID × Value)} {ns : List Nd} (x : NMap h ps ns) : (ps.map (·.1)).Nodup := x.1
theorem NMap.len {h : Frag} {ps : List (ID × Value)} {ns : List Nd} (x : NMap h ps ns) : ps.length = ns.length := x.2.2.1
theorem Coll.len {ps : List (ID × Value)} {ns : List Nd} {seen : List Nat} {outs : List Nd} (c : Coll ps ns seen outs) : outs.length = seen.length := c.2.2.1
attribute [local irreducible] NMap Coll
theorem union_s {h : Frag} {a : Value} {l : List (List Nd)} (hs : SL h 1 (GraphC 4398046511104) a l) (hb : l.flatten.length ≤ 1000000) : PSpec Tryz.prog 36 #[a] h (fun h' v => ∃ us, v = .tuple #[.agg us.toArray, .int .i64 (unionR l).2] ∧ GraphC 4398046511104 h' (unionR l).1 us) := by
  have hl := hs.le
  refine pspec_of (vs := [a]) Tryz.func36 Tryz.ntmps36 rfl rfl ?_
  (focus (refine Wr ?_; refine S_c rfl rfl rfl (C_alloc rfl (zer rfl) ?_); intro b0_1; refine Sm rfl ?_; refine On ?_; refine WP_seq ?_; refine Wr ?_; refine Sm rfl ?_; refine S_q rfl rfl rfl (Q_lenS rfl rfl rfl rfl rfl rfl ‹_›) ?_; refine Sm rfl ?_; refine On ?_; refine WP_block ?_))
  (refine WP_loopC (α := Nat) [17, 16, 2, 0] (fun (k : Nat) => l.length - k) (fun (k : Nat) => [(18, .int .i64 k)]) (fun hh (k : Nat) => hh = h ∧ k ≤ l.length ∧ (l.drop k).all validG = l.all validG) 0 ⟨_, _, rfl, ⟨_, _, rfl, ⟨_, _, rfl, ⟨_, _, rfl, rfl, rfl⟩, rfl⟩, rfl⟩, rfl⟩ (by repeat' first | exact trivial | refine ⟨rfl, ?_⟩) ?_ ?_)
  · exact ⟨rfl, Nat.zero_le _, rfl⟩
  rintro h1 k _ ⟨rfl, hk, ht⟩
  by_cases hlt : k < l.length
  · obtain ⟨g, eg⟩ := get_of hlt
    have had := all_drop (p := validG) eg
    (focus (refine Wr ?_; refine Sc rfl rfl rfl rfl rfl rfl rfl ?_; refine On ?_; refine WP_seq ?_; refine WP_cond rfl (fun c2_1 => ?_) (fun c2_1 => ?_) <;> (first | (simp [*] at c2_1; done) | (try simp at c2_1)); refine WP_skip ?_; refine then_n ?_; refine WP_seq ?_; refine WP_block ?_; refine Wr ?_; refine S_q rfl rfl rfl (Q_indexS ‹_› ‹_› rfl rfl rfl (elm rfl) rfl) ?_; refine S_load rfl rfl rfl rfl rfl ?_; refine L_elA ‹_› ‹_› (ty rfl) ?_; rintro _ _ _ ⟨pg2_2, qg2_2, rfl, fg2_2⟩; refine S_c rfl rfl rfl (C_alloc rfl (zer rfl) ?_); intro b2_3; refine S_w0 rfl rfl (W_all rfl rfl rfl (ty rfl) u0 (by first | rfl | assumption) (by first | rfl | assumption) (by first | rfl | assumption | exact ones_sub ‹_› _ _) ?_); refine On ?_; refine Wr ?_; refine S_load rfl rfl rfl rfl rfl ?_; refine L_agg (Rd.own m0) (ty rfl) (by first | rfl | assumption) ?_; refine S_c rfl rfl rfl (C_callv (valid_s ⟨_, _, rfl, by assumption⟩) rfl rfl ⟨_, _, rfl, rfl, rfl⟩ (cal rfl) ?_); refine S_q rfl rfl rfl (Q_not rfl rfl) ?_; refine On ?_; refine WP_cond rfl (fun c2_4 => ?_) (fun c2_4 => ?_) <;> (first | (simp [*] at c2_4; done) | (try simp at c2_4)); (focus (refine Wr ?_; refine S_q rfl rfl rfl (Q_build rfl (by decide +kernel) (zer rfl) rfl rfl) ?_; refine S_w0 rfl rfl (W_all rfl rfl rfl (ty rfl) u1 (by first | rfl | assumption) (by first | rfl | assumption) (by first | rfl | assumption | exact ones_sub ‹_› _ _) ?_); refine Sm rfl ?_; refine On ?_; refine WP_ret ?_; refine block_r ?_; refine then_r ?_; refine roundF_r ?_; refine block_r ?_; refine then_r ?_)); rotate_left 1; (focus (refine WP_skip ?_; refine block_n ?_; refine then_n ?_; refine R_region ?_; refine S_q rfl rfl rfl (Q_add rfl rfl rfl (by omega)) ?_; refine Sm rfl ?_; refine OPS_nil ?_)); rotate_left 1))
    · have hr : unionR l = ([], 1) := by
        have : l.all validG = false := by rw [← ht, had, c2_4]; rfl
        rw [unionR, this]; rfl
      refine pret (.inl rfl) rfl ⟨_, _, _, rfl, Loads_agg (Rd.own m1) (ty rfl) rfl, ⟨_, _, rfl, rfl, rfl⟩, rfl⟩ ?_
      rw [hr]; exact ⟨_, rfl, _, _, rfl, SLB.nil _ _ _ _ _ _⟩
    · refine roundF_n (k + 1) (by omega) ⟨rfl, by omega, ?_⟩ (by repeat' first | exact sR _ | exact sA _ _ | exact sN _ | apply s2 | apply s1) (by repeat' first | exact trivial | refine ⟨rfl, ?_⟩)
      rw [← ht, had, c2_4]; rfl
  · have hge : k = l.length := by omega
    subst hge
    have hall : l.all validG = true := by rw [← ht]; simp
    have hun : unionR l = resU (insAll [] l.flatten) := by rw [unionR, if_pos hall]
    clear ht hall
    (focus (refine Wr ?_; refine Sc rfl rfl rfl rfl rfl rfl rfl ?_; refine On ?_; refine WP_seq ?_; refine WP_cond rfl (fun c3_1 => ?_) (fun c3_1 => ?_) <;> (first | (simp [*] at c3_1; done) | (try simp at c3_1)); refine WP_exit ?_; refine then_e ?_; refine roundF_e ?_; refine block_e ?_; refine then_n ?_; refine Wr ?_; refine S_c rfl rfl rfl (C_makeMapK idk rfl rfl ?_); intro b3_2; refine Sm rfl ?_; refine On ?_; refine WP_seq ?_; refine Wr ?_; refine Sm rfl ?_; refine S_q rfl rfl rfl (Q_lenS rfl rfl rfl rfl rfl rfl ‹_›) ?_; refine Sm rfl ?_; refine On ?_; refine WP_block ?_))
    (refine WP_loopM (α := Nat × List (ID × Value) × List Nd) []  _ [29, 28, 6, 2] (fun (s : Nat × List (ID × Value) × List Nd) => l.length - s.1) (fun (s : Nat × List (ID × Value) × List Nd) =>  [(b3_2, mapObj idv s.2.1)]) (fun (s : Nat × List (ID × Value) × List Nd) => [(30, .int .i64 s.1)]) (fun hh (s : Nat × List (ID × Value) × List Nd) => hh = h1 ∧ s.1 ≤ l.length ∧ NMap h1 s.2.1 s.2.2 ∧ s.2.2.length ≤ (l.take s.1).flatten.length ∧ insAll s.2.2 (l.drop s.1).flatten = insAll [] l.flatten) (0, [], []) rfl ⟨_, _, rfl, ⟨_, _, rfl, ⟨_, _, rfl, ⟨_, _, rfl, rfl, rfl⟩, rfl⟩, rfl⟩, rfl⟩ (by repeat' first | exact trivial | refine ⟨rfl, ?_⟩) ?_ ?_)
    · exact ⟨rfl, Nat.zero_le _, NMap_nil _, Nat.zero_le _, rfl⟩
    rintro h1 ⟨k, ps, ns⟩ _ ⟨rfl, hk, hN, hnl, hins⟩
    simp only at hk hN hnl hins
    dsimp only
    by_cases hlt : k < l.length
    · obtain ⟨g, eg⟩ := get_of hlt
      have hdg : (l.drop k).flatten = g ++ (l.drop (k + 1)).flatten := by rw [drop_get eg]; simp
      rw [hdg] at hins
      (focus (refine Wr ?_; refine Sc rfl rfl rfl rfl rfl rfl rfl ?_; refine On ?_; refine WP_seq ?_; refine WP_cond rfl (fun c5_1 => ?_) (fun c5_1 => ?_) <;> (first | (simp [*] at c5_1; done) | (try simp at c5_1)); refine WP_skip ?_; refine then_n ?_; refine WP_seq ?_; refine WP_block ?_; refine Wr ?_; refine S_q rfl rfl rfl (Q_indexS ‹_› ‹_› rfl rfl rfl (elm rfl) rfl) ?_; refine S_load rfl rfl rfl rfl rfl ?_; refine L_elA ‹_› ‹_› (ty rfl) ?_; rintro _ _ _ ⟨pg5_2, qg5_2, rfl, fg5_2⟩; refine S_c rfl rfl rfl (C_alloc rfl (zer rfl) ?_); intro b5_3; refine S_w0 rfl rfl (W_all rfl rfl rfl (ty rfl) u0 (by first | rfl | assumption) (by first | rfl | assumption) (by first | rfl | assumption | exact ones_sub ‹_› _ _) ?_); refine On ?_; refine Wr ?_; refine Sf rfl rfl rfl rfl rfl (fld rfl rfl) ?_; refine S_load rfl rfl rfl rfl rfl ?_; refine L_one (Rd.own m0) (ty rfl) ?_; refine S_q rfl rfl rfl (Q_len rfl rfl rfl rfl rfl rfl) ?_; refine Sm rfl ?_; refine On ?_; refine WP_block ?_))
      have hgl := fg5_2.le
      (refine WP_loopM (α := Nat × List (ID × Value) × List Nd) [_]  _ [36, 35, 30, 29, 28, 6, 2] (fun (s : Nat × List (ID × Value) × List Nd) => g.length - s.1) (fun (s : Nat × List (ID × Value) × List Nd) =>  [(b3_2, mapObj idv s.2.1)]) (fun (s : Nat × List (ID × Value) × List Nd) => [(37, .int .i64 s.1)]) (fun hh (s : Nat × List (ID × Value) × List Nd) => hh = h1 ∧ s.1 ≤ g.length ∧ NMap h1 s.2.1 s.2.2 ∧ s.2.2.length ≤ (l.take k).flatten.length + s.1 ∧ insAll s.2.2 (g.drop s.1 ++ (l.drop (k + 1)).flatten) = insAll [] l.flatten) (0, ps, ns) rfl ⟨_, _, rfl, ⟨_, _, rfl, ⟨_, _, rfl, ⟨_, _, rfl, ⟨_, _, rfl, ⟨_, _, rfl, ⟨_, _, rfl, rfl, rfl⟩, rfl⟩, rfl⟩, rfl⟩, rfl⟩, rfl⟩, rfl⟩ (by repeat' first | exact trivial | refine ⟨rfl, ?_⟩) ?_ ?_)
      · exact ⟨rfl, Nat.zero_le _, hN, hnl, hins⟩
      clear hN hnl hins ps ns
      rintro h1 ⟨j, ps, ns⟩ _ ⟨rfl, hj, hN, hnl, hins⟩
      simp only at hj hN hnl hins
      dsimp only
      by_cases hlt2 : j < g.length
      · obtain ⟨⟨⟨i1, i2⟩, kd, cl, fs⟩, ex⟩ := get_of hlt2
        rw [drop_get ex, List.cons_append, insAll] at hins
        cases hq : mget (i1, i2) ps with
        | none =>
          (focus (refine Wr ?_; refine Sc rfl rfl rfl rfl rfl rfl rfl ?_; refine On ?_; refine WP_seq ?_; refine WP_cond rfl (fun c7_1 => ?_) (fun c7_1 => ?_) <;> (first | (simp [*] at c7_1; done) | (try simp at c7_1)); refine WP_skip ?_; refine then_n ?_; refine WP_seq ?_; refine WP_block ?_; refine Wr ?_; refine S_q rfl rfl rfl (Q_indexS ‹_› ‹_› rfl rfl rfl (elm rfl) rfl) ?_; refine S_load rfl rfl rfl rfl rfl ?_; refine L_elA ‹_› ‹_› (ty rfl) ?_; rintro _ _ _ ⟨pn7_2, qn7_2, rfl, fn7_2⟩; refine S_c rfl rfl rfl (C_alloc rfl (zer rfl) ?_); intro b7_3; refine S_w0 rfl rfl (W_all rfl rfl rfl (ty rfl) u0 (by first | rfl | assumption) (by first | rfl | assumption) (by first | rfl | assumption | exact ones_sub ‹_› _ _) ?_); refine On ?_; refine Wr ?_; refine Sm rfl ?_; refine Sf rfl rfl rfl rfl rfl (fld rfl rfl) ?_; refine S_load rfl rfl rfl rfl rfl ?_; refine L_sub (Rd.own m0) (ty rfl) rfl ?_; refine S_q rfl rfl rfl (Q_lookupOkN rfl rfl (key_id rfl) idk rfl rfl (.inr m2) ‹_›) ?_; refine Sm rfl ?_; refine S_q rfl rfl rfl (Q_extract rfl rfl rfl) ?_; refine S_q rfl rfl rfl (Q_extract rfl rfl rfl) ?_; refine S_c rfl rfl rfl (C_alloc rfl (zer rfl) ?_); intro b7_4; refine S_w0 rfl rfl (W_all rfl rfl rfl (ty rfl) u0 (by first | rfl | assumption) (by first | rfl | assumption) (by first | rfl | assumption | exact ones_sub ‹_› _ _) ?_); refine Sm rfl ?_; refine On ?_; refine WP_block ?_; refine Wr ?_; refine Sm rfl ?_; refine S_q rfl rfl rfl (Q_not rfl rfl) ?_; refine Sm rfl ?_; refine On ?_; refine cond_t rfl ?_; refine R_region ?_; refine Sm rfl ?_; refine Sf rfl rfl rfl rfl rfl (fld rfl rfl) ?_; refine S_load rfl rfl rfl rfl rfl ?_; refine L_sub (Rd.own m1) (ty rfl) rfl ?_; refine S_load rfl rfl rfl rfl rfl ?_; refine L_agg (Rd.own m1) (ty rfl) (by first | rfl | assumption) ?_; refine S_w0 rfl rfl (W_mapUpdate rfl rfl (key_id rfl) rfl idk rfl u3 ?_); refine OPS_nil ?_; refine block_n ?_; refine block_n ?_; refine then_n ?_; refine R_region ?_; refine S_q rfl rfl rfl (Q_add rfl rfl rfl (by omega)) ?_; refine Sm rfl ?_; refine OPS_nil ?_))
          obtain ⟨ns', e1, e2, e3⟩ := NMap_new (n := ⟨(i1, i2), kd, cl, fs⟩) hN hq fn7_2
          rw [e1] at hins
          exact roundF_n (j + 1, mput (i1, i2) (ndv ⟨(i1, i2), kd, cl, fs⟩ pn7_2 qn7_2) ps, ns') (by simp only; omega) ⟨rfl, by simp only; omega, e3, by simp only; omega, hins⟩ (by repeat' first | exact sR _ | exact sA _ _ | exact sN _ | apply s2 | apply s1) (by repeat' first | exact trivial | refine ⟨rfl, ?_⟩)
        | some v =>
          obtain ⟨pv, cv, o, rfl, fo, ho⟩ := NMap_get hN hq
          (focus (refine Wr ?_; refine Sc rfl rfl rfl rfl rfl rfl rfl ?_; refine On ?_; refine WP_seq ?_; refine WP_cond rfl (fun c8_1 => ?_) (fun c8_1 => ?_) <;> (first | (simp [*] at c8_1; done) | (try simp at c8_1)); refine WP_skip ?_; refine then_n ?_; refine WP_seq ?_; refine WP_block ?_; refine Wr ?_; refine S_q rfl rfl rfl (Q_indexS ‹_› ‹_› rfl rfl rfl (elm rfl) rfl) ?_; refine S_load rfl rfl rfl rfl rfl ?_; refine L_elA ‹_› ‹_› (ty rfl) ?_; rintro _ _ _ ⟨pn8_2, qn8_2, rfl, fn8_2⟩; refine S_c rfl rfl rfl (C_alloc rfl (zer rfl) ?_); intro b8_3; refine S_w0 rfl rfl (W_all rfl rfl rfl (ty rfl) u0 (by first | rfl | assumption) (by first | rfl | assumption) (by first | rfl | assumption | exact ones_sub ‹_› _ _) ?_); refine On ?_; refine Wr ?_; refine Sm rfl ?_; refine Sf rfl rfl rfl rfl rfl (fld rfl rfl) ?_; refine S_load rfl rfl rfl rfl rfl ?_; refine L_sub (Rd.own m0) (ty rfl) rfl ?_; refine S_q rfl rfl rfl (Q_lookupOkS rfl rfl (key_id rfl) idk rfl rfl (.inr m2) ‹_›) ?_; refine Sm rfl ?_; refine S_q rfl rfl rfl (Q_extract rfl rfl rfl) ?_; refine S_q rfl rfl rfl (Q_extract rfl rfl rfl) ?_; refine S_c rfl rfl rfl (C_alloc rfl (zer rfl) ?_); intro b8_4; refine S_w0 rfl rfl (W_all rfl rfl rfl (ty rfl) u0 (by first | rfl | assumption) (by first | rfl | assumption) (by first | rfl | assumption | exact ones_sub ‹_› _ _) ?_); refine Sm rfl ?_; refine On ?_; refine WP_block ?_; refine Wr ?_; refine Sm rfl ?_; refine S_q rfl rfl rfl (Q_not rfl rfl) ?_; refine Sm rfl ?_; refine On ?_; refine cond_f rfl ?_; refine Wr ?_; refine Sf rfl rfl rfl rfl rfl (fld rfl rfl) ?_; refine S_load rfl rfl rfl rfl rfl ?_; refine L_fld (Rd.own m0) (ty rfl) rfl ?_; refine Sc rfl rfl rfl rfl rfl rfl rfl ?_; refine Sf rfl rfl rfl rfl rfl (fld rfl rfl) ?_; refine S_load rfl rfl rfl rfl rfl ?_; refine L_fld (Rd.own m1) (ty rfl) rfl ?_; refine Sc rfl rfl rfl rfl rfl rfl rfl ?_; refine S_q rfl rfl rfl (Q_bne rfl rfl rfl rfl) ?_; refine Sm rfl ?_; refine On ?_; refine WP_cond rfl (fun c8_5 => ?_) (fun c8_5 => ?_) <;> (first | (simp [*] at c8_5; done) | (try simp at c8_5)); (focus (refine WP_seq ?_; refine Wr ?_; refine Sf rfl rfl rfl rfl rfl (fld rfl rfl) ?_; refine S_load rfl rfl rfl rfl rfl ?_; refine L_fld (Rd.own m0) (ty rfl) rfl ?_; refine Sf rfl rfl rfl rfl rfl (fld rfl rfl) ?_; refine S_load rfl rfl rfl rfl rfl ?_; refine L_fld (Rd.own m1) (ty rfl) rfl ?_; refine Sc rfl rfl rfl rfl rfl rfl rfl ?_; refine On ?_; refine WP_cond rfl (fun c8_6 => ?_) (fun c8_6 => ?_) <;> (first | (simp [*] at c8_6; done) | (try simp at c8_6)); (focus (refine Wr ?_; refine S_q rfl rfl rfl (Q_build rfl (by decide +kernel) (zer rfl) rfl rfl) ?_; refine S_w0 rfl rfl (W_all rfl rfl rfl (ty rfl) u4 (by first | rfl | assumption) (by first | rfl | assumption) (by first | rfl | assumption | exact ones_sub ‹_› _ _) ?_); refine Sm rfl ?_; refine On ?_; refine WP_ret ?_; refine then_r ?_; refine block_r ?_; refine block_r ?_; refine then_r ?_; refine roundF_r ?_; refine block_r ?_; refine block_r ?_; refine then_r ?_; refine roundF_r ?_; refine block_r ?_; refine then_r ?_)); rotate_left 1; (focus (refine WP_skip ?_; refine then_n ?_; refine Wr ?_; refine Sf rfl rfl rfl rfl rfl (fld rfl rfl) ?_; refine S_load rfl rfl rfl rfl rfl ?_; refine L_fld (Rd.own m0) (ty rfl) rfl ?_; refine Sc rfl rfl rfl rfl rfl rfl rfl ?_; refine On ?_; refine WP_cond rfl (fun c8_7 => ?_) (fun c8_7 => ?_) <;> (first | (simp [*] at c8_7; done) | (try simp at c8_7)); (focus (refine R_region ?_; refine Sm rfl ?_; refine Sf rfl rfl rfl rfl rfl (fld rfl rfl) ?_; refine S_load rfl rfl rfl rfl rfl ?_; refine L_sub (Rd.own m1) (ty rfl) rfl ?_; refine S_load rfl rfl rfl rfl rfl ?_; refine L_agg (Rd.own m1) (ty rfl) (by first | rfl | assumption) ?_; refine S_w0 rfl rfl (W_mapUpdate rfl rfl (key_id rfl) rfl idk rfl u3 ?_); refine OPS_nil ?_; refine block_n ?_; refine block_n ?_; refine then_n ?_; refine R_region ?_; refine S_q rfl rfl rfl (Q_add rfl rfl rfl (by omega)) ?_; refine Sm rfl ?_; refine OPS_nil ?_)); rotate_left 1; (focus (refine WP_skip ?_; refine block_n ?_; refine block_n ?_; refine then_n ?_; refine R_region ?_; refine S_q rfl rfl rfl (Q_add rfl rfl rfl (by omega)) ?_; refine Sm rfl ?_; refine OPS_nil ?_)); rotate_left 1)); rotate_left 2)); rotate_left 3; (focus (refine Wr ?_; refine S_load rfl rfl rfl rfl rfl ?_; refine L_agg (Rd.own m0) (ty rfl) (by first | rfl | assumption) ?_; refine S_load rfl rfl rfl rfl rfl ?_; refine L_agg (Rd.own m1) (ty rfl) (by first | rfl | assumption) ?_; refine S_c rfl rfl rfl (C_callv (sameNode_s ⟨_, _, rfl, by assumption⟩ ⟨_, _, rfl, by assumption⟩) rfl rfl ⟨_, _, rfl, ⟨_, _, rfl, rfl, rfl⟩, rfl⟩ (cal rfl) ?_); refine S_q rfl rfl rfl (Q_not rfl rfl) ?_; refine Sm rfl ?_; refine On ?_; refine WP_cond rfl (fun c8_8 => ?_) (fun c8_8 => ?_) <;> (first | (simp [*] at c8_8; done) | (try simp at c8_8)); (focus (refine Wr ?_; refine S_q rfl rfl rfl (Q_build rfl (by decide +kernel) (zer rfl) rfl rfl) ?_; refine S_w0 rfl rfl (W_all rfl rfl rfl (ty rfl) u4 (by first | rfl | assumption) (by first | rfl | assumption) (by first | rfl | assumption | exact ones_sub ‹_› _ _) ?_); refine Sm rfl ?_; refine On ?_; refine WP_ret ?_; refine block_r ?_; refine block_r ?_; refine then_r ?_; refine roundF_r ?_; refine block_r ?_; refine block_r ?_; refine then_r ?_; refine roundF_r ?_; refine block_r ?_; refine then_r ?_)); rotate_left 1; (focus (refine WP_skip ?_; refine block_n ?_; refine block_n ?_; refine then_n ?_; refine R_region ?_; refine S_q rfl rfl rfl (Q_add rfl rfl rfl (by omega)) ?_; refine Sm rfl ?_; refine OPS_nil ?_)); rotate_left 1)); rotate_left 2))
          · have hm : mergeN o ⟨(i1, i2), kd, cl, fs⟩ = none := by rw [mergeN, if_neg c8_5, if_neg c8_6]
            rw [NMap_err hN ho hm] at hins
            refine pret (.inl rfl) rfl ⟨_, _, _, rfl, Loads_agg (Rd.own m4) (ty rfl) rfl, ⟨_, _, rfl, rfl, rfl⟩, rfl⟩ ?_
            rw [hun, ← hins]; exact ⟨_, rfl, _, _, rfl, SLB.nil _ _ _ _ _ _⟩
          · have hm : mergeN o ⟨(i1, i2), kd, cl, fs⟩ = some ⟨(i1, i2), kd, cl, fs⟩ := by rw [mergeN, if_neg c8_5, if_pos c8_6, if_pos c8_7]
            obtain ⟨ns', e1, e2, e3⟩ := NMap_set hN hq ho hm fn8_2
            rw [e1] at hins
            exact roundF_n (j + 1, mput (i1, i2) (ndv ⟨(i1, i2), kd, cl, fs⟩ pn8_2 qn8_2) ps, ns') (by simp only; omega) ⟨rfl, by simp only; omega, e3, by simp only; omega, hins⟩ (by repeat' first | exact sR _ | exact sA _ _ | exact sN _ | apply s2 | apply s1) (by repeat' first | exact trivial | refine ⟨rfl, ?_⟩)
          · have hm : mergeN o ⟨(i1, i2), kd, cl, fs⟩ = some o := by rw [mergeN, if_neg c8_5, if_pos c8_6, if_neg c8_7]
            obtain ⟨ns', e1, e2, e3⟩ := NMap_keep hN ho hm
            rw [e1] at hins
            exact roundF_n (j + 1, ps, ns') (by simp only; omega) ⟨rfl, by simp only; omega, e3, by simp only; omega, hins⟩ (by repeat' first | exact sR _ | exact sA _ _ | exact sN _ | apply s2 | apply s1) (by repeat' first | exact trivial | refine ⟨rfl, ?_⟩)
          · have hm : mergeN o ⟨(i1, i2), kd, cl, fs⟩ = none := by rw [mergeN, if_pos c8_5, if_neg c8_8]
            rw [NMap_err hN ho hm] at hins
            refine pret (.inl rfl) rfl ⟨_, _, _, rfl, Loads_agg (Rd.own m4) (ty rfl) rfl, ⟨_, _, rfl, rfl, rfl⟩, rfl⟩ ?_
            rw [hun, ← hins]; exact ⟨_, rfl, _, _, rfl, SLB.nil _ _ _ _ _ _⟩
          · have hm : mergeN o ⟨(i1, i2), kd, cl, fs⟩ = some o := by rw [mergeN, if_pos c8_5, if_pos c8_8]
            obtain ⟨ns', e1, e2, e3⟩ := NMap_keep hN ho hm
            rw [e1] at hins
            exact roundF_n (j + 1, ps, ns') (by simp only; omega) ⟨rfl, by simp only; omega, e3, by simp only; omega, hins⟩ (by repeat' first | exact sR _ | exact sA _ _ | exact sN _ | apply s2 | apply s1) (by repeat' first | exact trivial | refine ⟨rfl, ?_⟩)
      · have hge : j = g.length := by omega
        subst hge
        (focus (refine Wr ?_; refine Sc rfl rfl rfl rfl rfl rfl rfl ?_; refine On ?_; refine WP_seq ?_; refine WP_cond rfl (fun c9_1 => ?_) (fun c9_1 => ?_) <;> (first | (simp [*] at c9_1; done) | (try simp at c9_1)); refine WP_exit ?_; refine then_e ?_; refine roundF_e ?_; refine block_e ?_; refine block_n ?_; refine then_n ?_; refine R_region ?_; refine S_q rfl rfl rfl (Q_add rfl rfl rfl (by omega)) ?_; refine Sm rfl ?_; refine OPS_nil ?_))
        refine roundF_n (k + 1, ps, ns) (by simp only; omega) ⟨rfl, by simp only; omega, hN, ?_, ?_⟩ (by repeat' first | exact sR _ | exact sA _ _ | exact sN _ | apply s2 | apply s1) (by repeat' first | exact trivial | refine ⟨rfl, ?_⟩)
        · simp only; rw [List.take_add_one, eg]; simpa using hnl
        · simpa using hins
    · have hge : k = l.length := by omega
      subst hge
      rw [List.drop_length] at hins
      have hins' : insAll [] l.flatten = some ns := by rw [← hins, List.flatten_nil, insAll]
      rw [hins', resU] at hun
      rw [List.take_length] at hnl
      clear hins hins'
      (focus (refine Wr ?_; refine Sc rfl rfl rfl rfl rfl rfl rfl ?_; refine On ?_; refine WP_seq ?_; refine WP_cond rfl (fun c10_1 => ?_) (fun c10_1 => ?_) <;> (first | (simp [*] at c10_1; done) | (try simp at c10_1)); refine WP_exit ?_; refine then_e ?_; refine roundF_e ?_; refine block_e ?_; refine then_n ?_; refine Wr ?_; refine S_c rfl rfl rfl (C_alloc rfl (zer rfl) ?_); intro b10_2; refine On ?_; refine WP_seq ?_; refine Wr ?_; refine Sm rfl ?_; refine S_c rfl rfl rfl (C_range rfl rfl rfl (.inr m1) ?_); intro b10_3; refine On ?_; refine WP_block ?_))
      refine WP_keepM [_, _] [(b3_2, mapObj idv ps)] [_] rfl fun h2 hle hmm => ?_
      have hmp : IsMapP idv h2 b3_2 ps := hmm (b3_2, mapObj idv ps) (by simp)
      have hN := hN.up hle
      (refine WP_loopF (α := List Nat × List Nd × Option Addr × Nat × Hp) [85, 13, 2] (fun (s : List Nat × List Nd × Option Addr × Nat × Hp) => ps.length - s.1.length) (fun (s : List Nat × List Nd × Option Addr × Nat × Hp) => (b10_3, iterObj b3_2 ps.length s.1) :: (b10_2, cells [.slice s.2.2.1 s.2.1.length s.2.2.2.1] 27) :: (b0_1, cells [.slice none 0 0] 27) :: (s.2.2.2.2 ++ [])) (fun (s : List Nat × List Nd × Option Addr × Nat × Hp) => []) (fun hh (s : List Nat × List Nd × Option Addr × Nat × Hp) => le h2 hh ∧ Coll ps ns s.1 s.2.1 ∧ OS hh 38 5 (NodeC 4398046511104) (.slice s.2.2.1 s.2.1.length s.2.2.2.1) s.2.1 s.2.2.2.2) ([], [], none, 0, []) ⟨_, _, rfl, ⟨_, _, rfl, ⟨_, _, rfl, rfl, rfl⟩, rfl⟩, rfl⟩ ?_ (by repeat' first | exact sR _ | exact sA _ _ | exact sN _ | apply s2 | apply s1) (by repeat' first | exact trivial | refine ⟨rfl, ?_⟩) ?_)
      · exact ⟨le_refl _, Coll_nil _ _, OS.nil _ _ _ _⟩
      rintro h3 ⟨seen, outs, p, c, M⟩ _ ⟨hl3, hC, hO⟩
      simp only at hC hO
      dsimp only
      have hmp := hmp.up hl3
      have hN := hN.up hl3
      have hcl := Coll_le hC
      have hpn := hN.len
      have hol := hC.len
      (focus (refine Wr ?_))
      refine S_w rfl rfl rfl (W_next (fun ob => (b10_3, ob) :: (b10_2, cells [.slice p outs.length c] 27) :: (b0_1, cells [.slice none 0 0] 27) :: (M ++ [])) rfl rfl (.inl hmp) (fun ob => Upd.head _) ?_ ?_)
      · intro i k v hpi hns
        obtain ⟨pv, cv, n, rfl, fo, ho⟩ := NMap_get hN (mget_at hN.nodup hpi)
        have hC' := Coll_snoc hC hns hpi ho
        have hcl' := Coll_le hC'
        simp only [List.length_append, List.length_singleton] at hcl'
        (focus (refine S_q rfl rfl rfl (Q_extract rfl rfl rfl) ?_; refine On ?_; refine WP_seq ?_; refine cond_t rfl ?_; refine WP_skip ?_; refine then_n ?_; refine WP_block ?_; refine Wr ?_; refine S_q rfl rfl rfl (Q_entry rfl rfl (.inl ‹_›) m0 ‹_›) ?_; refine S_q rfl rfl rfl (Q_extract rfl rfl rfl) ?_; refine S_c rfl rfl rfl (C_alloc rfl (zer rfl) ?_); intro b13_1; refine S_w0 rfl rfl (W_all rfl rfl rfl (ty rfl) u0 (by first | rfl | assumption) (by first | rfl | assumption) (by first | rfl | assumption | exact ones_sub ‹_› _ _) ?_); refine On ?_; refine R_draw (n := 8) mixed rfl ?_; refine A_at 0 rfl rfl ?_; refine A_q (m' := 1) rfl rfl rfl (Q_fieldAddr rfl rfl (fld rfl rfl)) rfl (by decide +kernel) ?_; refine A_at 1 rfl rfl ?_; refine A_load (m' := 3) rfl rfl rfl rfl rfl rfl (by decide +kernel) ?_; refine L_one (Rd.own m2) (ty rfl) ?_; refine A_at 2 rfl rfl ?_; refine A_load (m' := 7) rfl rfl rfl rfl rfl rfl (by decide +kernel) ?_; refine L_agg (Rd.own m0) (ty rfl) (by first | rfl | assumption) ?_; refine A_at 3 rfl rfl ?_; refine A_c (m' := 15) rfl rfl rfl rfl (by decide +kernel) (C_call (copyNode_s ⟨_, _, rfl, by assumption⟩) rfl rfl ⟨_, _, rfl, rfl, rfl⟩ (cal rfl) ?_); rintro h13_2 _ l13_2 ⟨pc13_2, qc13_2, rfl, fc13_2⟩; replace hO := hO.up l13_2; replace hmp := hmp.up l13_2; replace hN := hN.up l13_2; replace fo := fo.up l13_2; refine A_at 4 rfl rfl ?_; refine A_c (m' := 31) rfl rfl rfl rfl (by decide +kernel) (C_buildSlice rfl (elm rfl) (zer rfl) rfl ⟨_, _, _, rfl, rfl, rfl, rfl, rfl, rfl⟩ rfl rfl ?_); intro b13_3))
        refine A_at 5 rfl rfl ?_
        refine A_w (m' := 63) rfl rfl rfl rfl rfl (by decide +kernel) ?_
        refine W_app1 (y := n) (by_ := 56) [_, _, _, _] _ hO rfl rfl rfl rfl rfl rfl (elm rfl) (zer rfl) rfl rfl rfl rfl ⟨_, _, rfl, fc13_2⟩ (by omega) (by omega) ?_
        rintro p2 c2 M2 hO2
        (focus (refine A_at 6 rfl rfl ?_; refine A_q (m' := 127) rfl rfl rfl (Q_fieldAddr rfl rfl (fld rfl rfl)) rfl (by decide +kernel) ?_; refine A_at 7 rfl rfl ?_; refine A_w0 (m' := 255) rfl rfl rfl rfl (by decide +kernel) (W_one rfl rfl rfl (ty rfl) u2 rfl rfl rfl ?_); refine A_done (by decide +kernel) ?_; refine block_n ?_))
        exact roundF_n (seen ++ [i], outs ++ [n], p2, c2, M2) (by simp only [List.length_append, List.length_singleton]; omega) ⟨le_trans hl3 l13_2, hC', hO2⟩ (by repeat' first | exact sR _ | exact sA _ _ | exact sN _ | apply s2 | apply s1) (by repeat' first | exact trivial | refine ⟨rfl, ?_⟩)
      · intro hall
        (focus (refine S_q rfl rfl rfl (Q_extract rfl rfl rfl) ?_; refine On ?_; refine WP_seq ?_; refine cond_f rfl ?_; refine WP_exit ?_; refine then_e ?_; refine roundF_e ?_; refine block_e ?_; refine then_n ?_; refine Wr ?_; refine Sf rfl rfl rfl rfl rfl (fld rfl rfl) ?_; refine S_load rfl rfl rfl rfl rfl ?_; refine L_one (Rd.own m1) (ty rfl) ?_; refine S_w rfl rfl rfl (W_callF [_, _, _] _ (sortNd_s ‹_› (by omega)) rfl rfl ⟨_, _, rfl, ⟨_, _, rfl, rfl, rfl⟩, rfl⟩ (cal rfl) rfl ?_); rintro h15_1 m15_1 _ l15_1 ⟨e15_1, rfl, ys15_1, hp15_1, hs15_1, o15_1⟩; replace hO := hO.up l15_1; replace hmp := hmp.up l15_1; replace hN := hN.up l15_1; replace o15_1 := o15_1.up l15_1; refine On ?_; refine Wr ?_; refine S_load rfl rfl rfl rfl rfl ?_; refine L_agg (Rd.own m1) (ty rfl) (by first | rfl | assumption) ?_; refine S_w0 rfl rfl (W_all rfl rfl rfl (ty rfl) u2 (by first | rfl | assumption) (by first | rfl | assumption) (by first | rfl | assumption | exact ones_sub ‹_› _ _) ?_); refine Sm rfl ?_; refine On ?_; refine WP_ret ?_))
        have hys := Coll_end hN hC hall hp15_1 hs15_1
        have hyl := hp15_1.length_eq
        subst hys
        refine pretKM [_, _, _] m15_1 _ rfl (.inl rfl) rfl ⟨_, _, _, rfl, Loads_agg (Rd.own m2) (ty rfl) rfl, ⟨_, _, rfl, rfl, rfl⟩, rfl⟩ fun h' hl' hm => ?_
        rw [hun]
        exact ⟨_, rfl, _, _, by rw [hyl], o15_1.sl hl' (NodeC_mono _) hm (by omega)⟩
end Go.Proofs.YtfhoecgiahpddaaGreat
/-
  RANGES OVER FUNCTIONS, over a state; the end of a function that holds such a statement.
-/
set_option linter.all false
namespace Go.Mesh
open Go.RowKit
section
variable {P : Program} {r : Option Nat} {N : Nat} {h : Frag} {L : Hp} {D : List Nat} {fr : Fr}
theorem WP_dropQ {c : Code} {Q : Post} (x : WP P r N c h L D fr (fun e h' L' D' fr' => ∃ L2, List.Sublist L2 L' ∧ Q e h' L2 D' fr')) : WP P r N c h L D fr Q :=
  fun a w fa hw => wpIn_mono (x a w fa hw) fun _ _ _ ⟨h', _, D', fr', ⟨L2, hs, q⟩, f, e⟩ => ⟨h', L2, D', fr', q, f, e.drop hs⟩
theorem WP_perm {c : Code} {Q : Post} {L2 : Hp} (hp : L.Perm L2) (x : WP P r N c h L2 D fr Q) : WP P r N c h L D fr Q :=
  fun a w fa hw => wpIn_mono (x a w fa (hw.perm hp.symm)) fun _ _ _ ⟨h', L', D', fr', q, f, e⟩ => ⟨h', L', D', fr', q, f, e.of_perm hp⟩
/-- what a round over a state must come to -/
def bodyS {α σ : Type} (A B : Hp) (Mf : σ → Hp) (Inv : List α → Frag → σ → Prop) (Ix : Exit → Frag → Hp → Prop) (pre : List α) : Post := bodyQ (fun pre h L => ∃ s, List.Sublist (A ++ (Mf s ++ B)) L ∧ Inv pre h s) Ix pre
theorem bodyS_n {α σ : Type} {A B : Hp} {Mf : σ → Hp} {Inv : List α → Frag → σ → Prop} {Ix : Exit → Frag → Hp → Prop} {pre : List α} (s : σ) (hi : Inv pre h s) (hs : List.Sublist (A ++ (Mf s ++ B)) L) : bodyS A B Mf Inv Ix pre .normal h L D fr := ⟨s, hs, hi⟩
theorem bodyS_r {α σ : Type} {A B : Hp} {Mf : σ → Hp} {Inv : List α → Frag → σ → Prop} {Ix : Exit → Frag → Hp → Prop} {pre : List α} (x : Ix .ret h L) : bodyS A B Mf Inv Ix pre .ret h L D fr := x
theorem bodyS_e {α σ : Type} {A B : Hp} {Mf : σ → Hp} {Inv : List α → Frag → σ → Prop} {Ix : Exit → Frag → Hp → Prop} {pre : List α} {id : Nat} (x : Ix (.exit id) h L) : bodyS A B Mf Inv Ix pre (.exit id) h L D fr := x
theorem WP_rangeS {α σ : Type} {go : Operand} {ps : Array Tmp} {assign body : Code} {g : FuncId} {cap : Array Value} {fn : Func} {enc : Frag → α → Array Value → Prop} {items : List α} {Q : Post}
    (A B : Hp) (Mf : σ → Hp) (Inv : List α → Frag → σ → Prop) (Ix : Exit → Frag → Hp → Prop) (s0 : σ) (it : Iter P g cap h enc items)
    (hf : ev fr go = some (.func (.func g) #[] cap)) (hfn : P.funcs[g]? = some fn) (hn : fn.name ≠ "runtime.NumGoroutine") (hb : fn.body.isSome = true) (henc : ∀ h x vals, enc h x vals → vals.size = ps.size) (hps : parOk N ps.toList = true)
    (hL : L = A ++ (Mf s0 ++ B)) (h0 : Inv [] h s0)
    (round : ∀ l pre x vals h' s, le h h' → Inv pre h' s → (pre ++ [x]) <+: items → enc h' x vals → WP P (some l) N assign h' (A ++ (Mf s ++ B)) [] (parFr fr ps.toList vals.toList)
      (thenQ (fun h'' L'' D'' fr'' => D'' = [] ∧ WP P (some l) N body h'' L'' [] fr'' (bodyS A B Mf Inv Ix (pre ++ [x]))) (fun _ _ _ _ _ => False)))
    (done : ∀ d h' s, le h h' → Inv items h' s → Q .normal h' (A ++ (Mf s ++ (B ++ [dObj d]))) (d :: D) fr)
    (left : ∀ d e h' L', le h h' → Ix e h' L' → (jumpOf e).isSome = true → Q e h' (L' ++ [dObj d]) (d :: D) fr) : WP P none N (.rangeFunc go ps assign body) h L D fr Q := by
  refine WP_dropQ (WP_rangeFunc hf hfn hn hb it henc hps (fun pre h L => ∃ s, List.Sublist (A ++ (Mf s ++ B)) L ∧ Inv pre h s) Ix ⟨s0, by rw [hL]; exact List.Sublist.refl _, h0⟩ ?_ ?_ ?_)
  · rintro l pre x vals h' L' hl ⟨s, hs, hi⟩ hp he
    exact WP.drop hs (round l pre x vals h' s hl hi hp he)
  · rintro d h' L' hl ⟨s, hs, hi⟩
    refine ⟨_, ?_, done d h' s hl hi⟩
    have := hs.append (List.Sublist.refl [dObj d])
    simpa [dObj] using this
  · intro d e h' L' hl hx hj
    exact ⟨_, List.Sublist.refl _, left d e h' L' hl hx hj⟩
theorem Q_sliceTo {o : Oper} {t e k by_ : Nat} {s x : Operand} {b n cap : Nat} {q : IntKind} {i : Int} (u : Nat) (hop : o.op = .slice t s none (some x) none) (hs : ev fr s = some (.slice (some ⟨b, 0, none⟩) n cap)) (he : elemOf? P t = some (e, k, by_)) (hx : ev fr x = some (.int q i)) (hi : i = (u : Int)) (huc : u ≤ cap) (hc : 0 < cap) :
    QOP P o fr h L (.slice (some ⟨b, 0, none⟩) u cap) := by
  subst hi
  have := Q_slice (P := P) (h := h) (L := L) (l := 0) hop hs he rfl ⟨q, hx⟩ (Nat.zero_le _) huc hc
  simpa using this
/-- the end of a function that holds such statements -/
def retN (P : Program) (fn : Func) (R : OCont) : Post := fun e h' L' D' fr' => (e = .ret ∨ e = .normal) ∧ ∃ vs L2, List.Sublist (L2 ++ D'.map dObj) L' ∧ resVals P h' L2 fr' fn.results.toList vs ∧ ∀ w, Holds h' L2 w → ∃ h3 L3, Ext h' L2 w h3 L3 w ∧ R h3 L3 (resOf vs)
theorem spec_ofN {f : FuncId} {fn : Func} {c : Code} {vs : List Value} {args : Array Value} {R : OCont} (hf : P.funcs[f]? = some fn) (hn : fn.ntmps = N) (hb : fn.body = some c) (ha : args = vs.toArray) (hN : Nat.ble vs.length N = true)
    (x : WP P none N c h L [] (argFr vs 0) (retN P fn R)) : FSpec P f args h L R := by
  refine spec_ofM hf hn hb ha hN fun a w fa hw => wpIn_mono (x a w fa hw) ?_
  rintro e a' w' ⟨h', L', D', fr', ⟨he, us, L2, hs, hr, q⟩, f, y⟩
  exact ⟨h', _, D', fr', ⟨he, us, L2, rfl, hr, q⟩, f, y.drop hs⟩
theorem pspec_ofN {f : FuncId} {fn : Func} {c : Code} {vs : List Value} {R : Frag → Value → Prop} (hf : P.funcs[f]? = some fn) (hn : fn.ntmps = N) (hb : fn.body = some c) (hN : Nat.ble vs.length N = true)
    (x : WP P none N c h [] [] (argFr vs 0) (retN P fn (fun h' L' v => L' = [] ∧ R h' v))) : PSpec P f vs.toArray h R := spec_ofN hf hn hb rfl hN x
theorem nret {fn : Func} {R : OCont} {e : Exit} {rs : List ResultVar} {vs : List Value} (L2 : Hp) (hs : List.Sublist (L2 ++ D.map dObj) L) (he : e = .ret ∨ e = .normal) (hrs : fn.results.toList = rs) (hr : resVals P h L2 fr rs vs) (x : R h L2 (resOf vs)) : retN P fn R e h L D fr :=
  ⟨he, vs, L2, hs, by rw [hrs]; exact hr, fun _ hw => ⟨h, L2, Ext.refl hw, x⟩⟩
theorem nretP {fn : Func} {R : Frag → Value → Prop} {e : Exit} {rs : List ResultVar} {vs : List Value} (L2 : Hp) (hs : List.Sublist (L2 ++ D.map dObj) L) (he : e = .ret ∨ e = .normal) (hrs : fn.results.toList = rs) (hr : resVals P h L2 fr rs vs) (x : R h (resOf vs)) : retN P fn (fun h' L' v => L' = [] ∧ R h' v) e h L D fr :=
  ⟨he, vs, L2, hs, by rw [hrs]; exact hr, fun _ hw => ⟨h, [], (Ext.refl hw).drop (List.nil_sublist _), rfl, x⟩⟩
theorem nretK {fn : Func} {R : Frag → Value → Prop} {e : Exit} {rs : List ResultVar} {vs : List Value} (A M B : Hp) (hs : List.Sublist ((A ++ (M ++ B)) ++ D.map dObj) L) (he : e = .ret ∨ e = .normal) (hrs : fn.results.toList = rs) (hr : resVals P h (A ++ (M ++ B)) fr rs vs) (x : ∀ h', le h h' → (∀ p, p ∈ M → h' p.1 = some p.2) → R h' (resOf vs)) : retN P fn (fun h' L' v => L' = [] ∧ R h' v) e h L D fr :=
  ⟨he, vs, _, hs, by rw [hrs]; exact hr, fun w hw => by
    obtain ⟨h', e, hm⟩ := keepAt hw
    exact ⟨h', [], e.drop (List.nil_sublist _), rfl, x h' e.le hm⟩⟩
theorem Iter.up {α : Type} {g : FuncId} {cap : Array Value} {h' : Frag} {enc : Frag → α → Array Value → Prop} {items : List α} (x : Iter P g cap h enc items) (hl : le h h') : Iter P g cap h' enc items := fun l J Jx h0 L0 hl0 => x l J Jx h0 L0 (le_trans hl hl0)
end
attribute [local irreducible] retN bodyS
end Go.Mesh
/-
  PLAIN: what a graph reaches.
-/
set_option linter.all false
namespace Go.Proofs.YtfhoecgiahpddaaGreat
open Go.Mesh Go.RowKit
set_option maxRecDepth 100000
set_option linter.unusedVariables false
set_option maxHeartbeats 4000000
attribute [local irreducible] WP OPS ANY ANYo LG LV FSpec PSpec QOP OPc OPw thenQ blockQ roundQ roundF retQ retM Rd At SLB OS cmpI orI cmpID namedB valB nodeB kindB validG valAux idxI findG zeroV viewOf vwAt idxOf recv flyB scionOf moveOf numberedOf idOf valueOf mget mput localB carriedB stubOf followF followOf flOf flightsOf flPre setL minusL compactL putI mergeN insN insAll unionR NMap Coll retN bodyS
/-- the references of fields -/
def refsV (fs : List Val) : List ID := (fs.filter fun x => decide (x.1 = 2)).map fun x => x.2.2
/-- the references that are followed -/
def refsOf (n : Nd) : List ID := if n.kind = 2 then [] else refsV n.fields
theorem refsOf_weak {n : Nd} (h : n.kind = 2) : refsOf n = [] := by rw [refsOf, if_pos h]
theorem refsOf_plain {n : Nd} (h : ¬ n.kind = 2) : refsOf n = refsV n.fields := by rw [refsOf, if_neg h]
theorem refsV_nil : refsV [] = [] := rfl
theorem refsV_length (fs : List Val) : (refsV fs).length ≤ fs.length := by simp only [refsV, List.length_map]; exact List.length_filter_le _ _
theorem refsV_take {fs : List Val} {k : Nat} {x : Val} (hx : fs[k]? = some x) : refsV (fs.take (k + 1)) = refsV (fs.take k) ++ (if x.1 = 2 then [x.2.2] else []) := by
  simp only [refsV, List.take_add_one, hx, List.filter_append, List.map_append]
  by_cases h : x.1 = 2 <;> simp [h]
inductive Reach (g : List Nd) (roots : List ID) : ID → Prop
  | root {id : ID} {n : Nd} (h1 : id ∈ roots) (h2 : findG g id = some n) : Reach g roots id
  | step {m id : ID} {n k : Nd} (h1 : Reach g roots m) (h2 : findG g m = some n) (h3 : id ∈ refsOf n) (h4 : findG g id = some k) : Reach g roots id
theorem Reach.has {g : List Nd} {roots : List ID} {id : ID} (h : Reach g roots id) : ∃ n, findG g id = some n := by
  cases h with
  | root _ h2 => exact ⟨_, h2⟩
  | step _ _ _ h4 => exact ⟨_, h4⟩
open Classical in
/-- what is reached, in order -/
noncomputable def reachL (g : List Nd) (roots : List ID) : List ID := setL ((g.map (·.id)).filter fun x => decide (Reach g roots x))
theorem SI_reachL (g : List Nd) (roots : List ID) : SI (reachL g roots) := SI_setL _
theorem mem_reachL {g : List Nd} {roots : List ID} {x : ID} : x ∈ reachL g roots ↔ Reach g roots x := by
  rw [reachL, mem_setL, List.mem_filter]
  constructor
  · rintro ⟨_, h⟩; simpa using h
  · intro h
    obtain ⟨n, hn⟩ := h.has
    obtain ⟨h1, h2⟩ := findG_some hn
    exact ⟨List.mem_map.2 ⟨n, h1, h2⟩, by simpa using h⟩
theorem reachL_length (g : List Nd) (roots : List ID) : (reachL g roots).length ≤ g.length := by
  refine Nat.le_trans (setL_length _) (Nat.le_trans (List.length_filter_le _ _) ?_)
  simp
/-- what the search keeps true -/
def Dfs (g : List Nd) (roots w out : List ID) : Prop := out.Nodup ∧ (∀ x, x ∈ out → Reach g roots x) ∧ (∀ x, x ∈ w → ∀ n, findG g x = some n → Reach g roots x) ∧ (∀ x, x ∈ roots → x ∈ out ∨ x ∈ w ∨ findG g x = none) ∧
  ∀ m, m ∈ out → ∀ n, findG g m = some n → ∀ x, x ∈ refsOf n → x ∈ out ∨ x ∈ w ∨ findG g x = none
theorem Dfs_start (g : List Nd) (roots : List ID) : Dfs g roots roots [] :=
  ⟨List.nodup_nil, by simp, fun x hx n hn => .root hx hn, fun x hx => .inr (.inl hx), by simp⟩
theorem Dfs_skip {g : List Nd} {roots w w' out : List ID} {x : ID} (d : Dfs g roots w out) (hw : ∀ y, y ∈ w ↔ y = x ∨ y ∈ w') (hx : findG g x = none ∨ x ∈ out) : Dfs g roots w' out := by
  obtain ⟨d1, d2, d3, d4, d5⟩ := d
  refine ⟨d1, d2, fun y hy => d3 y ((hw y).2 (.inr hy)), fun y hy => ?_, fun m hm n hn y hy => ?_⟩
  · rcases d4 y hy with h | h | h
    · exact .inl h
    · rcases (hw y).1 h with rfl | h
      · rcases hx with h | h
        · exact .inr (.inr h)
        · exact .inl h
      · exact .inr (.inl h)
    · exact .inr (.inr h)
  · rcases d5 m hm n hn y hy with h | h | h
    · exact .inl h
    · rcases (hw y).1 h with rfl | h
      · rcases hx with h | h
        · exact .inr (.inr h)
        · exact .inl h
      · exact .inr (.inl h)
    · exact .inr (.inr h)
theorem Dfs_new {g : List Nd} {roots w w' out out' : List ID} {x : ID} {n : Nd} (d : Dfs g roots w out) (hw : ∀ y, y ∈ w → y = x ∨ y ∈ w') (hw' : ∀ y, y ∈ w' → y ∈ w ∨ y ∈ refsOf n) (hwn : ∀ y, y ∈ refsOf n → y ∈ w') (hxw : x ∈ w) (hn : findG g x = some n) (ho : ∀ y, y ∈ out' ↔ y = x ∨ y ∈ out) (hnd : out'.Nodup) : Dfs g roots w' out' := by
  obtain ⟨d1, d2, d3, d4, d5⟩ := d
  have hrx : Reach g roots x := d3 x hxw n hn
  refine ⟨hnd, fun y hy => ?_, fun y hy k hk => ?_, fun y hy => ?_, fun m hm k hk y hy => ?_⟩
  · rcases (ho y).1 hy with rfl | h
    · exact hrx
    · exact d2 y h
  · rcases hw' y hy with h | h
    · exact d3 y h k hk
    · exact .step hrx hn h hk
  · rcases d4 y hy with h | h | h
    · exact .inl ((ho y).2 (.inr h))
    · rcases hw y h with rfl | h
      · exact .inl ((ho _).2 (.inl rfl))
      · exact .inr (.inl h)
    · exact .inr (.inr h)
  · rcases (ho m).1 hm with rfl | hm
    · rw [hn] at hk; cases hk
      exact .inr (.inl (hwn y hy))
    · rcases d5 m hm k hk y hy with h | h | h
      · exact .inl ((ho y).2 (.inr h))
      · rcases hw y h with rfl | h
        · exact .inl ((ho _).2 (.inl rfl))
        · exact .inr (.inl h)
      · exact .inr (.inr h)
theorem Dfs_end {g : List Nd} {roots w out : List ID} (d : Dfs g roots w out) (hw : w = []) (x : ID) : x ∈ out ↔ Reach g roots x := by
  subst hw
  obtain ⟨d1, d2, d3, d4, d5⟩ := d
  refine ⟨d2 x, fun h => ?_⟩
  induction h with
  | root h1 h2 =>
    rcases d4 _ h1 with h | h | h
    · exact h
    · simp at h
    · rw [h2] at h; cases h
  | step h1 h2 h3 h4 ih =>
    rcases d5 _ ih _ h2 _ h3 with h | h | h
    · exact h
    · simp at h
    · rw [h4] at h; cases h
theorem nodup_subI : ∀ (l r : List ID), l.Nodup → (∀ x, x ∈ l → x ∈ r) → l.length ≤ r.length
  | [], _, _, _ => by simp
  | x :: l, r, hn, hs => by
    rw [List.nodup_cons] at hn
    have hx := hs x (by simp)
    have := nodup_subI l (r.erase x) hn.2 (fun y hy => (List.mem_erase_of_ne (fun e : y = x => hn.1 (by rw [← e]; exact hy))).2 (hs y (by simp [hy])))
    have hl := List.length_erase_of_mem hx
    have : 0 < r.length := List.length_pos_of_mem hx
    simp; omega
theorem Dfs_len {g : List Nd} {roots w out : List ID} (d : Dfs g roots w out) : out.length ≤ g.length := by
  have := nodup_subI out (g.map (·.id)) d.1 (fun x hx => by
    obtain ⟨n, hn⟩ := (d.2.1 x hx).has
    obtain ⟨h1, h2⟩ := findG_some hn
    exact List.mem_map.2 ⟨n, h1, h2⟩)
  simpa using this
theorem Dfs_nodup {g : List Nd} {roots w out : List ID} (d : Dfs g roots w out) : out.Nodup := d.1
theorem nodup_snoc {out : List ID} {x : ID} (h : out.Nodup) (hx : x ∉ out) : (out ++ [x]).Nodup := by
  rw [List.nodup_append]; exact ⟨h, by simp, fun a ha b hb e => by simp at hb; subst hb; subst e; exact hx ha⟩
theorem Dfs_push {g : List Nd} {roots w out : List ID} {x : ID} {n : Nd} (d : Dfs g roots (w ++ [x]) out) (hn : findG g x = some n) (hx : x ∉ out) : Dfs g roots (w ++ refsOf n) (out ++ [x]) := by
  refine Dfs_new (x := x) (n := n) d (fun y hy => ?_) (fun y hy => ?_) (fun y hy => List.mem_append_right _ hy) (by simp) hn (by simp [or_comm]) (nodup_snoc d.1 hx)
  · rcases List.mem_append.1 hy with h | h
    · exact .inr (List.mem_append_left _ h)
    · exact .inl (by simpa using h)
  · rcases List.mem_append.1 hy with h | h
    · exact .inl (List.mem_append_left _ h)
    · exact .inr h
/-- sorted, what was found is what is reached -/
theorem reach_end {g : List Nd} {roots w out ys : List ID} (d : Dfs g roots w out) (hw : w = []) (hp : ys.Perm out) (hs : ys.Pairwise fun x y => ¬ cmpID y x < 0) : ys = reachL g roots := by
  have hnd : ys.Pairwise (· ≠ ·) := List.nodup_iff_pairwise_ne.1 (hp.nodup_iff.2 d.1)
  have hsi : SI ys := (hs.and hnd).imp fun ⟨a, b⟩ => Decidable.byContradiction fun hc => b (cmp_eq.1 ⟨hc, a⟩)
  refine SI_unique hsi (SI_reachL g roots) fun x => ?_
  rw [hp.mem_iff, Dfs_end d hw, mem_reachL]
/-- a map that stands for a list of nodes -/
def GMap (h : Frag) (ps : List (ID × Value)) (ns : List Nd) : Prop := ∀ id, match mget id ps with
  | none => findG ns id = none
  | some v => ∃ p c n, v = ndv n p c ∧ SLB 4398046511104 h 4 ValC (.slice p n.fields.length c) n.fields ∧ findG ns id = some n
theorem GMap_nil (h : Frag) : GMap h [] [] := fun id => by simp only [mget]; unfold findG; rfl
theorem GMap_cons {h : Frag} {ps : List (ID × Value)} {ns : List Nd} {n : Nd} {p : Option Addr} {c : Nat} (x : GMap h ps ns) (hf : SLB 4398046511104 h 4 ValC (.slice p n.fields.length c) n.fields) : GMap h (mput n.id (ndv n p c) ps) (n :: ns) := by
  intro id
  rw [mget_mput, findG_cons]
  by_cases hid : n.id = id
  · rw [if_pos hid, if_pos hid]; exact ⟨p, c, n, rfl, hf, rfl⟩
  · rw [if_neg hid, if_neg hid]; exact x id
theorem GMap_some {h : Frag} {ps : List (ID × Value)} {ns : List Nd} {id : ID} {v : Value} (x : GMap h ps ns) (hq : mget id ps = some v) : ∃ p c n, v = ndv n p c ∧ SLB 4398046511104 h 4 ValC (.slice p n.fields.length c) n.fields ∧ findG ns id = some n := by
  have := x id
  rw [hq] at this
  exact this
theorem GMap_none {h : Frag} {ps : List (ID × Value)} {ns : List Nd} {id : ID} (x : GMap h ps ns) (hq : mget id ps = none) : findG ns id = none := by
  have := x id
  rw [hq] at this
  exact this
theorem GMap.up {h h' : Frag} {ps : List (ID × Value)} {ns : List Nd} (x : GMap h ps ns) (hl : le h h') : GMap h' ps ns := by
  intro id
  have := x id
  cases hq : mget id ps with
  | none => rw [hq] at this; exact this
  | some v =>
    rw [hq] at this
    obtain ⟨p, c, n, e1, e2, e3⟩ := this
    exact ⟨p, c, n, e1, e2.up hl, e3⟩
attribute [local irreducible] GMap Dfs refsV refsOf reachL
theorem OS.cut {h : Frag} {b cap : Nat} {w : List ID} {x : ID} {rest : List Value} (hc : (w ++ [x]).length ≤ cap) (hl : (flatI (w ++ [x])).length + rest.length = cap * 2) : OS h 35 2 IDC (.slice (some ⟨b, 0, none⟩) w.length cap) w [(b, cells (flatI (w ++ [x]) ++ rest) 35)] := by
  have h1 : flatI (w ++ [x]) ++ rest = flatI w ++ (flatI [x] ++ rest) := by rw [flatI_append, List.append_assoc]
  rw [h1]
  refine Go.Mesh.OS.make rfl (by simp at hc; omega) ?_
  rw [flatI_append] at hl
  simp only [List.length_append] at hl ⊢
  omega
end Go.Proofs.YtfhoecgiahpddaaGreat
/-
  CONTRACTS: shape.Reachable.
-/
set_option linter.all false
namespace Go.Proofs.YtfhoecgiahpddaaGreat
open Go.Mesh Go.RowKit
set_option maxRecDepth 100000
set_option linter.unusedVariables false
set_option maxHeartbeats 4000000
attribute [local irreducible] WP OPS ANY ANYo LG LV FSpec PSpec QOP OPc OPw thenQ blockQ roundQ roundF retQ retM Rd At SLB OS cmpI orI cmpID namedB valB nodeB kindB validG valAux idxI findG zeroV viewOf vwAt idxOf recv flyB scionOf moveOf numberedOf idOf valueOf mget mput localB carriedB stubOf followF followOf flOf flightsOf flPre setL minusL compactL putI mergeN insN insAll unionR NMap Coll retN bodyS GMap Dfs refsV refsOf reachL
theorem reach_s {h : Frag} {v : Value} {g : List Nd} {us : List Value} {roots : List ID} (hg : GraphC 4398046511104 h g us) (hr : SL h 2 IDC v roots) (hgl : g.length ≤ 1000000) (hrl : roots.length ≤ 1000000) (hfl : ∀ n, n ∈ g → n.fields.length ≤ 1000) : FSpec Tryz.prog 37 #[.agg us.toArray, v] h []
    (fun h' L' w => ∃ p c, w = .slice p (reachL g roots).length c ∧ OS h' 35 2 IDC (.slice p (reachL g roots).length c) (reachL g roots) L') := by
  obtain ⟨pg, cg, rfl, fg⟩ := hg
  obtain ⟨pr, cr, rfl⟩ := hr.slice
  refine spec_ofN (vs := [.agg [.slice pg g.length cg].toArray, .slice pr roots.length cr]) Tryz.func37 Tryz.ntmps37 rfl rfl rfl ?_
  (focus (refine Wr ?_; refine S_c rfl rfl rfl (C_box rfl rfl ?_); intro b0_1; refine Sm rfl ?_; refine On ?_; refine Wr ?_; refine S_c rfl rfl rfl (C_makeMapK idk rfl rfl ?_); intro b0_2; refine S_c rfl rfl rfl (C_alloc rfl (zer rfl) ?_); intro b0_3; refine S_w0 rfl rfl (W_one rfl rfl rfl (ty rfl) u0 rfl rfl rfl ?_); refine On ?_; refine WP_seq ?_; refine Wr ?_; refine Sf rfl rfl rfl rfl rfl (fld rfl rfl) ?_; refine S_load rfl rfl rfl rfl rfl ?_; refine L_one (Rd.own m2) (ty rfl) ?_; refine S_c rfl rfl rfl (C_call (backward_s ‹_›) rfl rfl ⟨_, _, rfl, rfl, rfl⟩ (cal rfl) ?_); rintro h0_4 _ l0_4 ⟨bi0_4, rfl, it0_4⟩; replace fg := fg.up l0_4; replace hr := hr.up l0_4; refine On ?_; refine WP_block ?_))
  refine WP_rangeS [_] [_] (fun ps : List (ID × Value) => [(b0_2, mapObj idv ps)]) (fun pre hh ps => le h0_4 hh ∧ GMap hh ps pre.reverse) (fun _ _ _ => False) [] it0_4 rfl Tryz.func120 (by decide) rfl (by rintro _ _ _ ⟨_, _, rfl, _⟩; rfl) rfl rfl ⟨le_refl _, GMap_nil _⟩ ?_ ?_ ?_
  · rintro l pre ⟨⟨i1, i2⟩, kd, cl, fs⟩ _ h1 ps hl1 ⟨hl2, hG⟩ hp ⟨i, us, rfl, hu1, hu2, pn, cn, rfl, hfs⟩
    dsimp only at hfs
    dsimp only [parFr]
    (focus (refine R_region ?_; refine S_c rfl rfl rfl (C_alloc rfl (zer rfl) ?_); intro b1_1; refine S_w0 rfl rfl (W_all rfl rfl rfl (ty rfl) u0 (by first | rfl | assumption) (by first | rfl | assumption) (by first | rfl | assumption | exact ones_sub ‹_› _ _) ?_); refine On ?_))
    refine ⟨rfl, ?_⟩
    (focus (refine WP_block ?_; refine R_region ?_; refine S_load rfl rfl rfl rfl rfl ?_; refine L_one (Rd.own m1) (ty rfl) ?_; refine Sf rfl rfl rfl rfl rfl (fld rfl rfl) ?_; refine S_load rfl rfl rfl rfl rfl ?_; refine L_sub (Rd.own m0) (ty rfl) rfl ?_; refine S_load rfl rfl rfl rfl rfl ?_; refine L_agg (Rd.own m0) (ty rfl) (by first | rfl | assumption) ?_; refine S_w0 rfl rfl (W_mapUpdate rfl rfl (key_id rfl) rfl idk rfl u2 ?_); refine OPS_nil ?_; refine block_n ?_))
    refine bodyS_n (mput (i1, i2) (ndv ⟨(i1, i2), kd, cl, fs⟩ pn cn) ps) ?_ (by repeat' first | exact sR _ | exact sA _ _ | exact sN _ | apply s2 | apply s1)
    refine ⟨hl2, ?_⟩
    rw [List.reverse_append]
    exact GMap_cons (n := ⟨(i1, i2), kd, cl, fs⟩) hG hfs
  · rintro d h1 ps hl1 ⟨hl2, hG⟩
    rw [List.reverse_reverse] at hG
    (replace it0_4 := it0_4.up hl1; replace fg := fg.up hl1; replace hr := hr.up hl1)
    (focus (refine block_n ?_; refine then_n ?_; refine Wr ?_; refine S_c rfl rfl rfl (C_makeMapK idk rfl rfl ?_); intro b4_1; refine Sm rfl ?_; refine On ?_; refine Wr ?_; refine Sm rfl ?_; refine On ?_; refine WP_seq ?_; refine Wr ?_; refine Sm rfl ?_; refine S_w rfl rfl rfl (W_callF [] _ (cloneID_s ‹_›) rfl rfl ⟨_, _, rfl, rfl, rfl⟩ (cal rfl) rfl ?_); rintro h4_2 m4_2 _ l4_2 ⟨p4_2, q4_2, rfl, o4_2⟩; replace hG := hG.up l4_2; replace it0_4 := it0_4.up l4_2; replace fg := fg.up l4_2; replace hr := hr.up l4_2; refine Sm rfl ?_; refine On ?_; refine WP_block ?_))
    refine WP_keepM (m4_2 ++ [(b4_1, mapObj idv [])]) [(b0_3, cells [.map (some b0_2)] 143), (b0_2, mapObj idv ps), (b0_1, cells [.slice pg g.length cg] 27)] [dObj d] (by simp) fun h4 hl4 hm4 => ?_
    have hbx : At h4 b0_3 0 [.map (some b0_2)] := at_of_keep (b := b0_3) (l := [.map (some b0_2)]) (t := 143) (fun p hp => hm4 p (by simp at hp; simp [hp]))
    have hmp : IsMapP idv h4 b0_2 ps := hm4 (b0_2, mapObj idv ps) (by simp)
    clear hm4
    (replace o4_2 := o4_2.up hl4; replace hG := hG.up hl4; replace it0_4 := it0_4.up hl4; replace fg := fg.up hl4; replace hr := hr.up hl4)
    refine WP_perm (L2 := (b4_1, mapObj idv []) :: (m4_2 ++ ([] ++ [dObj d]))) (by simp) ?_
    (refine WP_loopF (α := List ID × List ID × List (ID × Value) × (Option Addr × Nat × Hp) × (Option Addr × Nat × Hp)) [8, 5] (fun (s : List ID × List ID × List (ID × Value) × (Option Addr × Nat × Hp) × (Option Addr × Nat × Hp)) => (g.length - s.2.1.length) * 1001 + s.1.length) (fun (s : List ID × List ID × List (ID × Value) × (Option Addr × Nat × Hp) × (Option Addr × Nat × Hp)) => (b4_1, mapObj idv s.2.2.1) :: (s.2.2.2.1.2.2 ++ (s.2.2.2.2.2.2 ++ [dObj d]))) (fun (s : List ID × List ID × List (ID × Value) × (Option Addr × Nat × Hp) × (Option Addr × Nat × Hp)) => [(10, .slice s.2.2.2.1.1 s.1.length s.2.2.2.1.2.1), (9, .slice s.2.2.2.2.1 s.2.1.length s.2.2.2.2.2.1)]) (fun hh (s : List ID × List ID × List (ID × Value) × (Option Addr × Nat × Hp) × (Option Addr × Nat × Hp)) => hh = h4 ∧ Dfs g roots s.1 s.2.1 ∧ (∀ x, mget x s.2.2.1 = if x ∈ s.2.1 then some (.bool true) else none) ∧ s.1.length ≤ roots.length + 1000 * s.2.1.length ∧ OS h4 35 2 IDC (.slice s.2.2.2.1.1 s.1.length s.2.2.2.1.2.1) s.1 s.2.2.2.1.2.2 ∧ OS h4 35 2 IDC (.slice s.2.2.2.2.1 s.2.1.length s.2.2.2.2.2.1) s.2.1 s.2.2.2.2.2.2) (roots, [], [], (p4_2, q4_2, m4_2), (none, 0, [])) ⟨_, _, rfl, ⟨_, _, rfl, rfl, rfl⟩, rfl⟩ ?_ (by repeat' first | exact sR _ | exact sA _ _ | exact sN _ | apply s2 | apply s1) (by repeat' first | exact trivial | refine ⟨rfl, ?_⟩) ?_)
    · exact ⟨rfl, Dfs_start _ _, fun x => by simp [mget], by simp, o4_2, OS.nil _ _ _ _⟩
    rintro h5 ⟨w, out, sm, ⟨pw, cw, Mw⟩, ⟨po, co, Mo⟩⟩ _ ⟨rfl, hD, hsm, hwl, hW, hO⟩
    simp only at hD hsm hwl hW hO
    dsimp only
    have hol := Dfs_len hD
    clear o4_2
    rcases List.eq_nil_or_concat w with rfl | ⟨w', ⟨x1, x2⟩, rfl⟩
    · (focus (refine WP_seq ?_; refine Wr ?_; refine Sm rfl ?_; refine S_q rfl rfl rfl (Q_len rfl rfl rfl rfl rfl rfl) ?_; refine Sc rfl rfl rfl rfl rfl rfl rfl ?_; refine On ?_; refine cond_f rfl ?_; refine WP_exit ?_; refine then_e ?_; refine roundF_e ?_; refine block_e ?_; refine then_n ?_; refine Wr ?_; refine Sm rfl ?_; refine S_w rfl rfl rfl (W_callF (_ :: _) _ (sortID_s ‹_› (by omega) (cal rfl) (fun _ _ => order_s _ _ _)) rfl rfl ⟨_, _, rfl, ⟨_, _, rfl, rfl, rfl⟩, rfl⟩ (cal rfl) rfl ?_); rintro h7_1 m7_1 _ l7_1 ⟨e7_1, rfl, ys7_1, hp7_1, hn7_1, hs7_1, o7_1⟩; replace hbx := hbx.up l7_1; replace hmp := hmp.up l7_1; replace hG := hG.up l7_1; replace it0_4 := it0_4.up l7_1; replace fg := fg.up l7_1; replace hr := hr.up l7_1; replace hO := hO.up l7_1; replace hW := hW.up l7_1; replace o7_1 := o7_1.up l7_1; refine On ?_; refine Wr ?_; refine Sm rfl ?_; refine Sm rfl ?_; refine On ?_; refine WP_ret ?_))
      have hys := reach_end hD rfl hp7_1 hs7_1
      subst hys
      rw [← hn7_1] at o7_1
      rw [← hn7_1]
      exact nret m7_1 (List.sublist_append_right (_ :: Mw) _) (.inl rfl) rfl ⟨_, _, rfl, rfl, rfl⟩ ⟨_, _, rfl, o7_1⟩
    · rw [List.concat_eq_append] at *
      obtain ⟨b, cap, rest, e, rfl, hcap, hrest⟩ := hW.parts (by simp)
      cases e
      have hcut := OS.cut (h := h5) (b := b) hcap hrest
      have hx : (w' ++ [(x1, x2)])[w'.length]? = some (x1, x2) := by simp
      have hwl' : (w' ++ [(x1, x2)]).length = w'.length + 1 := by simp
      (focus (refine WP_seq ?_; refine Wr ?_; refine Sm rfl ?_; refine S_q rfl rfl rfl (Q_len rfl rfl rfl rfl rfl rfl) ?_; refine Sc rfl rfl rfl rfl rfl rfl rfl ?_; refine On ?_; refine WP_cond rfl (fun c8_1 => ?_) (fun c8_1 => ?_) <;> (first | (simp [*] at c8_1; done) | (try simp at c8_1)); refine WP_skip ?_; refine then_n ?_; refine WP_block ?_; refine Wr ?_; refine Sm rfl ?_; refine Sm rfl ?_; refine S_q rfl rfl rfl (Q_len rfl rfl rfl rfl rfl rfl) ?_; refine S_q rfl rfl rfl (Q_sub rfl rfl rfl (by omega)) ?_; refine S_q rfl rfl rfl (Q_indexX hx rfl rfl rfl (elm rfl) (by omega) (by omega)) ?_; refine S_load rfl rfl rfl rfl rfl ?_; refine L_id0 m1 ‹_› (ty rfl) ?_; refine S_c rfl rfl rfl (C_alloc rfl (zer rfl) ?_); intro b8_2; refine S_w0 rfl rfl (W_all rfl rfl rfl (ty rfl) u0 (by first | rfl | assumption) (by first | rfl | assumption) (by first | rfl | assumption | exact ones_sub ‹_› _ _) ?_); refine On ?_; refine Wr ?_; refine Sm rfl ?_; refine Sm rfl ?_; refine S_q rfl rfl rfl (Q_len rfl rfl rfl rfl rfl rfl) ?_; refine S_q rfl rfl rfl (Q_sub rfl rfl rfl (by omega)) ?_))
      refine S_q rfl rfl rfl (Q_sliceTo w'.length rfl rfl (elm rfl) rfl (by omega) (by omega) (by omega)) ?_
      cases hq : mget (x1, x2) ps with
      | none =>
        (focus (refine Sm rfl ?_; refine On ?_; refine Wr ?_; refine S_load rfl rfl rfl rfl rfl ?_; refine L_one (Rd.pers ‹_›) (ty rfl) ?_; refine S_load rfl rfl rfl rfl rfl ?_; refine L_agg (Rd.own m0) (ty rfl) (by first | rfl | assumption) ?_; refine S_q rfl rfl rfl (Q_lookupOkN rfl rfl (key_id rfl) idk rfl rfl (.inl ‹_›) ‹_›) ?_; refine Sm rfl ?_; refine S_q rfl rfl rfl (Q_extract rfl rfl rfl) ?_; refine S_q rfl rfl rfl (Q_extract rfl rfl rfl) ?_; refine S_c rfl rfl rfl (C_alloc rfl (zer rfl) ?_); intro b9_1; refine S_w0 rfl rfl (W_all rfl rfl rfl (ty rfl) u0 (by first | rfl | assumption) (by first | rfl | assumption) (by first | rfl | assumption | exact ones_sub ‹_› _ _) ?_); refine Sm rfl ?_; refine On ?_; refine WP_seq ?_; refine Wr ?_; refine Sm rfl ?_; refine S_q rfl rfl rfl (Q_not rfl rfl) ?_; refine Sm rfl ?_; refine S_gsplit rfl rfl rfl rfl (fun c9_2 => ?_) (fun c9_2 => ?_) <;> (first | (simp [*] at c9_2; done) | (try simp at c9_2)); refine Sn rfl ?_; refine Sn rfl ?_; refine Sn rfl ?_; refine S_q rfl rfl rfl (Q_pick_t rfl rfl rfl) ?_; refine On ?_; refine cond_t rfl ?_; refine WP_exit ?_; refine then_e ?_; refine block_e ?_))
        exact roundF_n (w', out, sm, (some ⟨b, 0, none⟩, cw, [(b, cells (flatI (w' ++ [(x1, x2)]) ++ rest) 35)]), (po, co, Mo)) (by simp only; omega) ⟨rfl, Dfs_skip (x := (x1, x2)) hD (by simp [or_comm]) (.inl (GMap_none hG hq)), hsm, by simp only; omega, hcut, hO⟩ (by repeat' first | exact sR _ | exact sA _ _ | exact sN _ | apply s2 | apply s1) (by repeat' first | exact trivial | refine ⟨rfl, ?_⟩)
      | some v =>
        obtain ⟨pv, cv, n, rfl, fo, ho⟩ := GMap_some hG hq
        by_cases hso : (x1, x2) ∈ out
        · have hq2 : mget (x1, x2) sm = some (.bool true) := by rw [hsm, if_pos hso]
          (focus (refine Sm rfl ?_; refine On ?_; refine Wr ?_; refine S_load rfl rfl rfl rfl rfl ?_; refine L_one (Rd.pers ‹_›) (ty rfl) ?_; refine S_load rfl rfl rfl rfl rfl ?_; refine L_agg (Rd.own m0) (ty rfl) (by first | rfl | assumption) ?_; refine S_q rfl rfl rfl (Q_lookupOkS rfl rfl (key_id rfl) idk rfl rfl (.inl ‹_›) ‹_›) ?_; refine Sm rfl ?_; refine S_q rfl rfl rfl (Q_extract rfl rfl rfl) ?_; refine S_q rfl rfl rfl (Q_extract rfl rfl rfl) ?_; refine S_c rfl rfl rfl (C_alloc rfl (zer rfl) ?_); intro b10_1; refine S_w0 rfl rfl (W_all rfl rfl rfl (ty rfl) u0 (by first | rfl | assumption) (by first | rfl | assumption) (by first | rfl | assumption | exact ones_sub ‹_› _ _) ?_); refine Sm rfl ?_; refine On ?_; refine WP_seq ?_; refine Wr ?_; refine Sm rfl ?_; refine S_q rfl rfl rfl (Q_not rfl rfl) ?_; refine Sm rfl ?_; refine S_gsplit rfl rfl rfl rfl (fun c10_2 => ?_) (fun c10_2 => ?_) <;> (first | (simp [*] at c10_2; done) | (try simp at c10_2)); refine S_gq rfl rfl rfl rfl rfl rfl (Q_move rfl rfl) ?_; refine S_gload rfl rfl rfl rfl rfl rfl rfl rfl ?_; refine L_agg (Rd.own m1) (ty rfl) (by first | rfl | assumption) ?_; refine S_gq rfl rfl rfl rfl rfl rfl (Q_lookupS rfl rfl (key_id rfl) idk rfl rfl (.inr m2) ‹_›) ?_; refine S_q rfl rfl rfl (Q_pick_f rfl rfl rfl) ?_; refine On ?_; refine cond_t rfl ?_; refine WP_exit ?_; refine then_e ?_; refine block_e ?_))
          exact roundF_n (w', out, sm, (some ⟨b, 0, none⟩, cw, [(b, cells (flatI (w' ++ [(x1, x2)]) ++ rest) 35)]), (po, co, Mo)) (by simp only; omega) ⟨rfl, Dfs_skip (x := (x1, x2)) hD (by simp [or_comm]) (.inr hso), hsm, by simp only; omega, hcut, hO⟩ (by repeat' first | exact sR _ | exact sA _ _ | exact sN _ | apply s2 | apply s1) (by repeat' first | exact trivial | refine ⟨rfl, ?_⟩)
        · have hq2 : mget (x1, x2) sm = none := by rw [hsm, if_neg hso]
          have hsm' : ∀ y, mget y (mput (x1, x2) (.bool true) sm) = if y ∈ out ++ [(x1, x2)] then some (.bool true) else none := by
            intro y
            rw [mget_mput, hsm]
            by_cases hy : (x1, x2) = y
            · subst hy; simp
            · rw [if_neg hy]; simp [Ne.symm hy]
          have hnf := hfl n (findG_some ho).1
          have hnd := nodup_snoc (Dfs_nodup hD) hso
          have hol2 : (out ++ [(x1, x2)]).length = out.length + 1 := by simp
          (focus (refine Sm rfl ?_; refine On ?_; refine Wr ?_; refine S_load rfl rfl rfl rfl rfl ?_; refine L_one (Rd.pers ‹_›) (ty rfl) ?_; refine S_load rfl rfl rfl rfl rfl ?_; refine L_agg (Rd.own m0) (ty rfl) (by first | rfl | assumption) ?_; refine S_q rfl rfl rfl (Q_lookupOkS rfl rfl (key_id rfl) idk rfl rfl (.inl ‹_›) ‹_›) ?_; refine Sm rfl ?_; refine S_q rfl rfl rfl (Q_extract rfl rfl rfl) ?_; refine S_q rfl rfl rfl (Q_extract rfl rfl rfl) ?_; refine S_c rfl rfl rfl (C_alloc rfl (zer rfl) ?_); intro b11_1; refine S_w0 rfl rfl (W_all rfl rfl rfl (ty rfl) u0 (by first | rfl | assumption) (by first | rfl | assumption) (by first | rfl | assumption | exact ones_sub ‹_› _ _) ?_); refine Sm rfl ?_; refine On ?_; refine WP_seq ?_; refine Wr ?_; refine Sm rfl ?_; refine S_q rfl rfl rfl (Q_not rfl rfl) ?_; refine Sm rfl ?_; refine S_gsplit rfl rfl rfl rfl (fun c11_2 => ?_) (fun c11_2 => ?_) <;> (first | (simp [*] at c11_2; done) | (try simp at c11_2)); refine S_gq rfl rfl rfl rfl rfl rfl (Q_move rfl rfl) ?_; refine S_gload rfl rfl rfl rfl rfl rfl rfl rfl ?_; refine L_agg (Rd.own m1) (ty rfl) (by first | rfl | assumption) ?_; refine S_gq rfl rfl rfl rfl rfl rfl (Q_lookupN rfl rfl (key_id rfl) idk rfl rfl (.inr m2) ‹_›) ?_; refine S_q rfl rfl rfl (Q_pick_f rfl rfl rfl) ?_; refine On ?_; refine cond_f rfl ?_; refine WP_skip ?_; refine then_n ?_; refine Wr ?_; refine Sm rfl ?_; refine S_load rfl rfl rfl rfl rfl ?_; refine L_agg (Rd.own m1) (ty rfl) (by first | rfl | assumption) ?_; refine S_w0 rfl rfl (W_mapUpdate rfl rfl (key_id rfl) rfl idk rfl u2 ?_); refine On ?_; refine Wr ?_; refine Sm rfl ?_; refine S_load rfl rfl rfl rfl rfl ?_; refine L_agg (Rd.own m1) (ty rfl) (by first | rfl | assumption) ?_; refine S_c rfl rfl rfl (C_buildSlice rfl (elm rfl) (zer rfl) rfl ⟨_, _, _, rfl, rfl, rfl, rfl, rfl, rfl⟩ rfl rfl ?_); intro b11_3; refine S_w rfl rfl rfl (W_app1 [_, _, _, _] _ ‹_› rfl rfl rfl rfl rfl rfl (elm rfl) (zer rfl) rfl rfl rfl rfl rfl (by (try simp only [lA]); omega) (by (try simp only [lA]); omega) ?_); rintro p11_4 q11_4 m11_4 o11_4; refine Sm rfl ?_; refine On ?_; refine WP_seq ?_; refine Wr ?_; refine Sf rfl rfl rfl rfl rfl (fld rfl rfl) ?_; refine S_load rfl rfl rfl rfl rfl ?_; refine L_fld (Rd.own m0) (ty rfl) rfl ?_; refine Sc rfl rfl rfl rfl rfl rfl rfl ?_; refine On ?_; refine WP_cond rfl (fun c11_5 => ?_) (fun c11_5 => ?_) <;> (first | (simp [*] at c11_5; done) | (try simp at c11_5)); (focus (refine WP_exit ?_; refine then_e ?_; refine block_e ?_)); rotate_left 1; (focus (refine WP_skip ?_; refine then_n ?_; refine Wr ?_; refine Sf rfl rfl rfl rfl rfl (fld rfl rfl) ?_; refine S_load rfl rfl rfl rfl rfl ?_; refine L_fld (Rd.own m0) (ty rfl) rfl ?_; refine S_q rfl rfl rfl (Q_len rfl rfl rfl rfl rfl rfl) ?_; refine Sm rfl ?_; refine On ?_; refine WP_block ?_)); rotate_left 1))
          · have hD' : Dfs g roots w' (out ++ [(x1, x2)]) := by have := Dfs_push hD ho hso; rw [refsOf_weak c11_5, List.append_nil] at this; exact this
            have := Dfs_len hD'
            exact roundF_n (w', out ++ [(x1, x2)], mput (x1, x2) (.bool true) sm, (some ⟨b, 0, none⟩, cw, [(b, cells (flatI (w' ++ [(x1, x2)]) ++ rest) 35)]), (p11_4, q11_4, m11_4)) (by simp only; omega) ⟨rfl, hD', hsm', by simp only; omega, hcut, o11_4⟩ (by repeat' first | exact sR _ | exact sA _ _ | exact sN _ | apply s2 | apply s1) (by repeat' first | exact trivial | refine ⟨rfl, ?_⟩)
          · (refine WP_loopM (α := Nat × List ID × Option Addr × Nat × Hp) [_, _, _]  _ [67, 66, 9, 8, 5] (fun (s : Nat × List ID × Option Addr × Nat × Hp) => n.fields.length - s.1) (fun (s : Nat × List ID × Option Addr × Nat × Hp) =>  s.2.2.2.2) (fun (s : Nat × List ID × Option Addr × Nat × Hp) => [(68, .int .i64 (s.1 : Int)), (10, .slice s.2.2.1 s.2.1.length s.2.2.2.1)]) (fun hh (s : Nat × List ID × Option Addr × Nat × Hp) => hh = h5 ∧ s.1 ≤ n.fields.length ∧ s.2.1 = w' ++ refsV (n.fields.take s.1) ∧ OS h5 35 2 IDC (.slice s.2.2.1 s.2.1.length s.2.2.2.1) s.2.1 s.2.2.2.2) (0, w', some ⟨b, 0, none⟩, cw, [(b, cells (flatI (w' ++ [(x1, x2)]) ++ rest) 35)]) rfl ⟨_, _, rfl, ⟨_, _, rfl, ⟨_, _, rfl, ⟨_, _, rfl, ⟨_, _, rfl, rfl, rfl⟩, rfl⟩, rfl⟩, rfl⟩, rfl⟩ (by repeat' first | exact trivial | refine ⟨rfl, ?_⟩) ?_ ?_)
            · exact ⟨rfl, Nat.zero_le _, by simp [refsV_nil], hcut⟩
            rintro h6 ⟨k, ww, pw, cw2, Mw⟩ _ ⟨rfl, hk, hww, hW2⟩
            simp only at hk hww hW2
            dsimp only
            have hl1 := refsV_length (n.fields.take k)
            have hl2 : (n.fields.take k).length ≤ 1000 := by rw [List.length_take]; omega
            have hl3 : ww.length = w'.length + (refsV (n.fields.take k)).length := by rw [hww, List.length_append]
            by_cases hlt : k < n.fields.length
            · obtain ⟨⟨f1, f2, i1, i2⟩, ex⟩ := get_of hlt
              have htk := refsV_take ex
              (focus (refine Wr ?_; refine Sc rfl rfl rfl rfl rfl rfl rfl ?_; refine On ?_; refine WP_seq ?_; refine WP_cond rfl (fun c13_1 => ?_) (fun c13_1 => ?_) <;> (first | (simp [*] at c13_1; done) | (try simp at c13_1)); refine WP_skip ?_; refine then_n ?_; refine WP_seq ?_; refine WP_block ?_; refine Wr ?_; refine S_q rfl rfl rfl (Q_indexS ‹_› ‹_› rfl rfl rfl (elm rfl) rfl) ?_; refine S_load rfl rfl rfl rfl rfl ?_; refine L_elA ‹_› ‹_› (ty rfl) ?_; rintro _ _ _ rfl; refine S_c rfl rfl rfl (C_alloc rfl (zer rfl) ?_); intro b13_3; refine S_w0 rfl rfl (W_all rfl rfl rfl (ty rfl) u0 (by first | rfl | assumption) (by first | rfl | assumption) (by first | rfl | assumption | exact ones_sub ‹_› _ _) ?_); refine On ?_; refine Wr ?_; refine Sf rfl rfl rfl rfl rfl (fld rfl rfl) ?_; refine S_load rfl rfl rfl rfl rfl ?_; refine L_fld (Rd.own m0) (ty rfl) rfl ?_; refine Sc rfl rfl rfl rfl rfl rfl rfl ?_; refine On ?_; refine WP_cond rfl (fun c13_4 => ?_) (fun c13_4 => ?_) <;> (first | (simp [*] at c13_4; done) | (try simp at c13_4)); (focus (refine R_region ?_; refine Sm rfl ?_; refine Sf rfl rfl rfl rfl rfl (fld rfl rfl) ?_; refine S_load rfl rfl rfl rfl rfl ?_; refine L_sub (Rd.own m0) (ty rfl) rfl ?_; refine S_c rfl rfl rfl (C_buildSlice rfl (elm rfl) (zer rfl) rfl ⟨_, _, _, rfl, rfl, rfl, rfl, rfl, rfl⟩ rfl rfl ?_); intro b13_5; refine S_w rfl rfl rfl (W_app1 [_, _, _, _] _ ‹_› rfl rfl rfl rfl rfl rfl (elm rfl) (zer rfl) rfl rfl rfl rfl rfl (by (try simp only [lA]); omega) (by (try simp only [lA]); omega) ?_); rintro p13_6 q13_6 m13_6 o13_6; refine Sm rfl ?_; refine OPS_nil ?_; refine block_n ?_; refine then_n ?_; refine R_region ?_; refine S_q rfl rfl rfl (Q_add rfl rfl rfl (by omega)) ?_; refine Sm rfl ?_; refine OPS_nil ?_)); rotate_left 1; (focus (refine WP_skip ?_; refine block_n ?_; refine then_n ?_; refine R_region ?_; refine S_q rfl rfl rfl (Q_add rfl rfl rfl (by omega)) ?_; refine Sm rfl ?_; refine OPS_nil ?_)); rotate_left 1))
              · simp only [c13_4, if_true] at htk
                refine roundF_n (k + 1, ww ++ [(i1, i2)], p13_6, q13_6, m13_6) (by simp only; omega) ⟨rfl, by simp only; omega, ?_, o13_6⟩ (by repeat' first | exact sR _ | exact sA _ _ | exact sN _ | apply s2 | apply s1) (by repeat' first | exact trivial | refine ⟨rfl, ?_⟩)
                simp only; rw [htk, hww, List.append_assoc]
              · simp only [c13_4, if_false, List.append_nil] at htk
                refine roundF_n (k + 1, ww, pw, cw2, Mw) (by simp only; omega) ⟨rfl, by simp only; omega, ?_, hW2⟩ (by repeat' first | exact sR _ | exact sA _ _ | exact sN _ | apply s2 | apply s1) (by repeat' first | exact trivial | refine ⟨rfl, ?_⟩)
                simp only; rw [htk, hww]
            · have hge : k = n.fields.length := by omega
              subst hge
              rw [List.take_length] at hww hl1 hl2 hl3
              (focus (refine Wr ?_; refine Sc rfl rfl rfl rfl rfl rfl rfl ?_; refine On ?_; refine WP_seq ?_; refine WP_cond rfl (fun c14_1 => ?_) (fun c14_1 => ?_) <;> (first | (simp [*] at c14_1; done) | (try simp at c14_1)); refine WP_exit ?_; refine then_e ?_; refine roundF_e ?_; refine block_e ?_; refine block_n ?_))
              have hro := refsOf_plain c11_5
              have hD' : Dfs g roots ww (out ++ [(x1, x2)]) := by
                subst hww
                rw [← hro]; exact Dfs_push hD ho hso
              have := Dfs_len hD'
              exact roundF_n (ww, out ++ [(x1, x2)], mput (x1, x2) (.bool true) sm, (pw, cw2, Mw), (p11_4, q11_4, m11_4)) (by simp only; omega) ⟨rfl, hD', hsm', by simp only; omega, hW2, o11_4⟩ (by repeat' first | exact sR _ | exact sA _ _ | exact sN _ | apply s2 | apply s1) (by repeat' first | exact trivial | refine ⟨rfl, ?_⟩)
  · rintro d e h1 L1 hl1 hx _; exact hx.elim
end Go.Proofs.YtfhoecgiahpddaaGreat
/-
  CONTRACTS: observer.Graph.
-/
set_option linter.all false
namespace Go.Proofs.YtfhoecgiahpddaaGreat
open Go.Mesh Go.RowKit
set_option maxRecDepth 100000
set_option linter.unusedVariables false
set_option maxHeartbeats 4000000
attribute [local irreducible] WP OPS ANY ANYo LG LV FSpec PSpec QOP OPc OPw thenQ blockQ roundQ roundF retQ retM Rd At SLB OS cmpI orI cmpID namedB valB nodeB kindB validG valAux idxI findG zeroV viewOf vwAt idxOf recv flyB scionOf moveOf numberedOf idOf valueOf mget mput localB carriedB stubOf followF followOf flOf flightsOf flPre setL minusL compactL putI mergeN insN insAll unionR NMap Coll retN bodyS GMap Dfs refsV refsOf reachL
/-- the node that a flight moves -/
def movedOf (vs : List View) (i : View × Flight) : Nd := ⟨i.2.msg.parcel.id, i.2.msg.parcel.kind, i.2.msg.parcel.cls, i.2.msg.parcel.fields.map (valueOf vs i.1.machine i.2.to)⟩
def isMove (i : View × Flight) : Bool := decide (i.2.msg.kind = 1)
def movedG (vs : List View) (l : List (View × Flight)) : List (List Nd) := (l.filter isMove).map fun i => [movedOf vs i]
def graphParts (vs : List View) : List (List Nd) := vs.map (·.objects) ++ movedG vs (flightsOf vs)
def graphR (vs : List View) : List Nd × Int := unionR (graphParts vs)
/-- few and small views -/
structure Small (vs : List View) : Prop where
  len : vs.length ≤ 5
  objs : ∀ v, v ∈ vs → v.objects.length ≤ 12
  stubs : ∀ v, v ∈ vs → v.stubs.length ≤ 12
  scions : ∀ v, v ∈ vs → v.scions.length ≤ 12
  names : ∀ v, v ∈ vs → v.names.length ≤ 6
  mail : ∀ v, v ∈ vs → v.mail.length ≤ 6
  flights : ∀ v, v ∈ vs → v.flights.length ≤ 6
  received : ∀ v, v ∈ vs → v.received.length ≤ 10
  fields : ∀ v, v ∈ vs → ∀ n, n ∈ v.objects → n.fields.length ≤ 6
  args : ∀ v, v ∈ vs → ∀ m, m ∈ v.mail → m.args.length ≤ 6
  letter : ∀ v, v ∈ vs → ∀ x, x ∈ v.flights → x.msg.args.length ≤ 6
  moved : ∀ v, v ∈ vs → ∀ x, x ∈ v.flights → x.msg.parcel.fields.length ≤ 6
  pmail : ∀ v, v ∈ vs → ∀ x, x ∈ v.flights → x.msg.parcel.mail.length ≤ 4
  pargs : ∀ v, v ∈ vs → ∀ x, x ∈ v.flights → ∀ m, m ∈ x.msg.parcel.mail → m.length ≤ 6
theorem slb_of_at {α : Type} {B : Nat} {h : Frag} {k : Nat} {C : CR α} {b cap : Nat} {xs : List α} {us : List Value} (ha : At h b 0 us) (hf : Flat h k C xs us) (hm : xs.length ≤ B) : SLB B h k C (.slice (some ⟨b, 0, none⟩) xs.length cap) xs := by
  unfold At at ha
  obtain ⟨arr, t, fz, e, g⟩ := ha
  exact SLB.of_flat e hf g hm
theorem flatMap_le {α β : Type} (f : α → List β) (k : Nat) : ∀ l : List α, (∀ x, x ∈ l → (f x).length ≤ k) → (l.flatMap f).length ≤ l.length * k
  | [], _ => by simp
  | x :: l, h => by
    have h1 := h x (by simp)
    have h2 := flatMap_le f k l fun y hy => h y (by simp [hy])
    simp only [List.flatMap_cons, List.length_append, List.length_cons, Nat.add_mul, Nat.one_mul]
    omega
theorem flightsOf_mem {vs : List View} {i : View × Flight} (h : i ∈ flightsOf vs) : i.1 ∈ vs ∧ i.2 ∈ i.1.flights := by
  simp only [flightsOf, List.mem_flatMap, flOf, List.mem_map, List.mem_filter] at h
  obtain ⟨v, hv, x, ⟨hx, _⟩, rfl⟩ := h
  exact ⟨hv, hx⟩
theorem Small.fl {vs : List View} (s : Small vs) : (flightsOf vs).length ≤ 30 := by
  have := flatMap_le (flOf vs) 6 vs fun v hv => by
    simp only [flOf, List.length_map]
    exact Nat.le_trans (List.length_filter_le _ _) (s.flights v hv)
  have h2 := s.len
  rw [flightsOf]; omega
theorem movedG_snoc (vs : List View) (l : List (View × Flight)) (i : View × Flight) : movedG vs (l ++ [i]) = movedG vs l ++ (if isMove i then [[movedOf vs i]] else []) := by
  simp only [movedG, List.filter_append, List.map_append]
  by_cases h : isMove i = true <;> simp [h]
theorem movedG_len (vs : List View) (l : List (View × Flight)) : (movedG vs l).length ≤ l.length := by simp only [movedG, List.length_map]; exact List.length_filter_le _ _
theorem movedG_flat (vs : List View) (l : List (View × Flight)) : (movedG vs l).flatten.length ≤ l.length := by
  have : (movedG vs l).flatten.length = (movedG vs l).length := by
    rw [movedG]; generalize l.filter isMove = r
    induction r with
    | nil => rfl
    | cons x r ih => simp only [List.map_cons, List.flatten_cons, List.length_append, List.length_cons, List.length_nil] at ih ⊢; omega
  have h2 := movedG_len vs l
  omega
theorem Small.parts {vs : List View} (s : Small vs) : (graphParts vs).flatten.length ≤ 1000000 := by
  have h1 := flatMap_le (fun v : View => v.objects) 12 vs s.objs
  have h2 := movedG_flat vs (flightsOf vs)
  have h3 := s.fl
  have h4 := s.len
  rw [graphParts, List.flatten_append, List.length_append, ← List.flatMap_def]
  omega
attribute [local irreducible] movedOf movedG graphParts graphR isMove
theorem graph_s {h : Frag} {a : Value} {vs : List View} (hs : SL h 13 (ViewC 4398046511104) a vs) (sm : Small vs) : PSpec Tryz.prog 11 #[a] h (fun h' v => ∃ us, v = .tuple #[.agg us.toArray, .int .i64 (graphR vs).2] ∧ GraphC 4398046511104 h' (graphR vs).1 us) := by
  have hlen := sm.len
  have hfl := sm.fl
  obtain ⟨pv, cv, rfl⟩ := hs.slice
  refine pspec_ofN (vs := [.slice pv vs.length cv]) Tryz.func11 Tryz.ntmps11 rfl rfl ?_
  (focus (refine Wr ?_; refine S_c rfl rfl rfl (C_alloc rfl (zer rfl) ?_); intro b0_1; refine Sm rfl ?_; refine On ?_; refine Wr ?_; refine Sm rfl ?_; refine S_c rfl rfl rfl (C_call (of_s ‹_›) rfl rfl ⟨_, _, rfl, rfl, rfl⟩ (cal rfl) ?_); rintro h0_2 _ l0_2 ⟨pf0_2, qf0_2, mb0_2, rfl, ff0_2⟩; replace hs := hs.up l0_2; refine S_c rfl rfl rfl (C_alloc rfl (zer rfl) ?_); intro b0_3; refine S_w0 rfl rfl (W_all rfl rfl rfl (ty rfl) u0 (by first | rfl | assumption) (by first | rfl | assumption) (by first | rfl | assumption | exact ones_sub ‹_› _ _) ?_); refine On ?_; refine Wr ?_; refine S_c rfl rfl rfl (C_alloc rfl (zer rfl) ?_); intro b0_4; refine On ?_; refine WP_seq ?_; refine Wr ?_; refine Sm rfl ?_; refine S_q rfl rfl rfl (Q_len rfl rfl rfl rfl rfl rfl) ?_; refine Sm rfl ?_; refine On ?_; refine WP_block ?_))
  (focus (refine WP_keepM [_] [_] _ rfl ?_; rintro h1_k l1_k k1_k; have a1_k := at_of_keep k1_k; clear k1_k; replace ff0_2 := ff0_2.up l1_k; replace hs := hs.up l1_k))
  (refine WP_loopF (α := Nat × List (List Nd) × Option Addr × Nat × Hp) [17, 16, 5, 4, 2] (fun (s : Nat × List (List Nd) × Option Addr × Nat × Hp) => vs.length - s.1) (fun (s : Nat × List (List Nd) × Option Addr × Nat × Hp) => (b0_4, cells [.slice s.2.2.1 s.2.1.length s.2.2.2.1] 98) :: (b0_1, cells [.slice none 0 0] 27) :: (s.2.2.2.2 ++ [])) (fun (s : Nat × List (List Nd) × Option Addr × Nat × Hp) => [(18, .int .i64 (s.1 : Int))]) (fun hh (s : Nat × List (List Nd) × Option Addr × Nat × Hp) => hh = h1_k ∧ s.1 ≤ vs.length ∧ s.2.1 = (vs.take s.1).map (·.objects) ∧ OS h1_k 27 1 (GraphC 4398046511104) (.slice s.2.2.1 s.2.1.length s.2.2.2.1) s.2.1 s.2.2.2.2) (0, [], none, 0, []) ⟨_, _, rfl, ⟨_, _, rfl, ⟨_, _, rfl, ⟨_, _, rfl, ⟨_, _, rfl, rfl, rfl⟩, rfl⟩, rfl⟩, rfl⟩, rfl⟩ ?_ (by repeat' first | exact sR _ | exact sA _ _ | exact sN _ | apply s2 | apply s1) (by repeat' first | exact trivial | refine ⟨rfl, ?_⟩) ?_)
  · exact ⟨rfl, Nat.zero_le _, rfl, OS.nil _ _ _ _⟩
  rintro h1 ⟨k, gs, p, c, M⟩ _ ⟨rfl, hk, hgs, hO⟩
  simp only at hk hgs hO
  dsimp only
  have hgl : gs.length = k := by rw [hgs]; simp; omega
  by_cases hlt : k < vs.length
  · obtain ⟨v, ev⟩ := get_of hlt
    (focus (refine Wr ?_; refine Sc rfl rfl rfl rfl rfl rfl rfl ?_; refine On ?_; refine WP_seq ?_; refine WP_cond rfl (fun c3_1 => ?_) (fun c3_1 => ?_) <;> (first | (simp [*] at c3_1; done) | (try simp at c3_1)); refine WP_skip ?_; refine then_n ?_; refine WP_seq ?_; refine WP_block ?_; refine Wr ?_; refine S_q rfl rfl rfl (Q_indexS ‹_› ‹_› rfl rfl rfl (elm rfl) rfl) ?_; refine S_load rfl rfl rfl rfl rfl ?_; refine L_elA ‹_› ‹_› (ty rfl) ?_; rintro _ _ _ ⟨xi3_2, xa3_2, po3_2, qo3_2, ps3_2, qs3_2, pc3_2, qc3_2, pn3_2, qn3_2, pm3_2, qm3_2, xw3_2, xv3_2, pf3_2, qf3_2, pr3_2, qr3_2, xe3_2, xf3_2, rfl, vo3_2, vs3_2, vc3_2, vn3_2, vm3_2, vf3_2, vr3_2⟩; refine S_c rfl rfl rfl (C_alloc rfl (zer rfl) ?_); intro b3_3; refine S_w0 rfl rfl (W_all rfl rfl rfl (ty rfl) u0 (by first | rfl | assumption) (by first | rfl | assumption) (by first | rfl | assumption | exact ones_sub ‹_› _ _) ?_); refine On ?_; refine R_region ?_; refine S_load rfl rfl rfl rfl rfl ?_; refine L_one (Rd.own m1) (ty rfl) ?_; refine Sf rfl rfl rfl rfl rfl (fld rfl rfl) ?_; refine S_load rfl rfl rfl rfl rfl ?_; refine L_sub (Rd.own m0) (ty rfl) rfl ?_; refine S_c rfl rfl rfl (C_buildSlice rfl (elm rfl) (zer rfl) rfl ⟨_, _, _, rfl, rfl, rfl, rfl, rfl, rfl⟩ rfl rfl ?_); intro b3_4))
    refine S_w rfl rfl rfl (W_app1 (y := v.objects) (by_ := 24) [_, _, _] _ hO rfl rfl rfl rfl rfl rfl (elm rfl) (zer rfl) rfl rfl rfl rfl ⟨_, _, rfl, vo3_2⟩ (by omega) (by omega) ?_)
    rintro p2 c2 M2 hO2
    (focus (refine S_w0 rfl rfl (W_one rfl rfl rfl (ty rfl) u1 rfl rfl rfl ?_); refine OPS_nil ?_; refine block_n ?_; refine then_n ?_; refine R_region ?_; refine S_q rfl rfl rfl (Q_add rfl rfl rfl (by omega)) ?_; refine Sm rfl ?_; refine OPS_nil ?_))
    refine roundF_n (k + 1, gs ++ [v.objects], p2, c2, M2) (by simp only; omega) ⟨rfl, by simp only; omega, ?_, hO2⟩ (by repeat' first | exact sR _ | exact sA _ _ | exact sN _ | apply s2 | apply s1) (by repeat' first | exact trivial | refine ⟨rfl, ?_⟩)
    simp only; rw [hgs, List.take_add_one, ev]; simp
  · have hge : k = vs.length := by omega
    subst hge
    rw [List.take_length] at hgs
    (focus (refine Wr ?_; refine Sc rfl rfl rfl rfl rfl rfl rfl ?_; refine On ?_; refine WP_seq ?_; refine WP_cond rfl (fun c5_1 => ?_) (fun c5_1 => ?_) <;> (first | (simp [*] at c5_1; done) | (try simp at c5_1)); refine WP_exit ?_; refine then_e ?_; refine roundF_e ?_; refine block_e ?_; refine then_n ?_; refine WP_seq ?_; refine Wr ?_; refine S_load rfl rfl rfl rfl rfl ?_; refine L_agg (Rd.pers ‹_›) (ty rfl) (by first | rfl | assumption) ?_; refine S_c rfl rfl rfl (C_call (flights_s ‹_›) rfl rfl ⟨_, _, rfl, rfl, rfl⟩ (cal rfl) ?_); rintro h5_2 _ l5_2 ⟨bi5_2, rfl, it5_2⟩; replace a1_k := a1_k.up l5_2; replace ff0_2 := ff0_2.up l5_2; replace hs := hs.up l5_2; replace hO := hO.up l5_2; refine On ?_; refine WP_block ?_))
    refine WP_rangeS [] [] (fun s : List (List Nd) × Option Addr × Nat × Hp => (b0_4, cells [.slice s.2.1 s.1.length s.2.2.1] 98) :: (b0_1, cells [.slice none 0 0] 27) :: s.2.2.2)
      (fun pre hh s => le h5_2 hh ∧ s.1 = vs.map (·.objects) ++ movedG vs pre ∧ OS hh 27 1 (GraphC 4398046511104) (.slice s.2.1 s.1.length s.2.2.1) s.1 s.2.2.2) (fun _ _ _ => False) (gs, p, c, M) it5_2 rfl Tryz.func77 (by decide) rfl (by rintro _ _ _ ⟨_, _, rfl, _⟩; rfl) rfl rfl ⟨le_refl _, by simp [movedG, hgs], hO⟩ ?_ ?_ ?_
    · clear hO hgl hgs M p c gs
      rintro l pre ⟨v, x⟩ _ h2 ⟨gs, p, c, M⟩ hl1 ⟨hl2, hgs, hO⟩ hp ⟨us, ws, rfl, hu1, hu2, hu3, hw1, hw2, hw3⟩
      simp only at hgs hO hu3 hw3
      obtain ⟨hvm, hxm⟩ := flightsOf_mem (hp.subset (by simp : (v, x) ∈ pre ++ [(v, x)]))
      have hpl := hp.length_le
      have hsn := movedG_snoc vs pre (v, x)
      have hgl : gs.length ≤ 35 := by
        rw [hgs, List.length_append, List.length_map]; have := movedG_len vs pre; simp at hpl; omega
      have hfl6 := sm.moved v hvm x hxm
      (replace it5_2 := it5_2.up hl1; replace a1_k := a1_k.up hl1; replace ff0_2 := ff0_2.up hl1; replace hs := hs.up hl1)
      obtain ⟨hi, xa, po, qo, qs, qt, pc, qc, pn, qn, pm, qm, xw, xv, pf, qf, pr, qr, xe, xf, rfl, -⟩ := hu3
      obtain ⟨ya, yb, yc, yd, ye, pa, qa, pg, qg, ph, qh, yw, y1, y2, y3, y4, y5, y6, y7, y8, y9, y10, y11, y12, y13, y14, y15, rfl, ha, hfs, hm⟩ := hw3
      dsimp only [parFr]
      (focus (refine Wr ?_; refine S_c rfl rfl rfl (C_alloc rfl (zer rfl) ?_); intro b7_1; refine S_w0 rfl rfl (W_all rfl rfl rfl (ty rfl) u0 (by first | rfl | assumption) (by first | rfl | assumption) (by first | rfl | assumption | exact ones_sub ‹_› _ _) ?_); refine On ?_; refine R_region ?_; refine S_c rfl rfl rfl (C_alloc rfl (zer rfl) ?_); intro b7_2; refine S_w0 rfl rfl (W_all rfl rfl rfl (ty rfl) u0 (by first | rfl | assumption) (by first | rfl | assumption) (by first | rfl | assumption | exact ones_sub ‹_› _ _) ?_); refine On ?_))
      refine ⟨rfl, ?_⟩
      (focus (refine WP_block ?_; refine Wr ?_; refine Sf rfl rfl rfl rfl rfl (fld rfl rfl) ?_; refine Sf rfl rfl rfl rfl rfl (fld rfl rfl) ?_; refine S_load rfl rfl rfl rfl rfl ?_; refine L_fld2 (Rd.own m0) ?_; refine LV_a (ty rfl) rfl ?_; refine S_c rfl rfl rfl (C_alloc rfl (zer rfl) ?_); intro b8_1; refine S_w0 rfl rfl (W_all rfl rfl rfl (ty rfl) u0 (by first | rfl | assumption) (by first | rfl | assumption) (by first | rfl | assumption | exact ones_sub ‹_› _ _) ?_); refine On ?_; refine WP_seq ?_; refine Wr ?_; refine Sf rfl rfl rfl rfl rfl (fld rfl rfl) ?_; refine Sf rfl rfl rfl rfl rfl (fld rfl rfl) ?_; refine S_load rfl rfl rfl rfl rfl ?_; refine L_fld2 (Rd.own m1) ?_; refine LV_1 (ty rfl) rfl ?_; refine Sc rfl rfl rfl rfl rfl rfl rfl ?_; refine On ?_; refine WP_cond rfl (fun c8_2 => ?_) (fun c8_2 => ?_) <;> (first | (simp [*] at c8_2; done) | (try simp at c8_2)); (focus (refine WP_exit ?_; refine then_e ?_; refine block_e ?_)); rotate_left 1; (focus (refine WP_skip ?_; refine then_n ?_; refine Wr ?_; refine Sf rfl rfl rfl rfl rfl (fld rfl rfl) ?_; refine S_load rfl rfl rfl rfl rfl ?_; refine L_sub (Rd.own m0) (ty rfl) rfl ?_; refine Sf rfl rfl rfl rfl rfl (fld rfl rfl) ?_; refine S_load rfl rfl rfl rfl rfl ?_; refine L_fld (Rd.own m0) (ty rfl) rfl ?_; refine Sf rfl rfl rfl rfl rfl (fld rfl rfl) ?_; refine S_load rfl rfl rfl rfl rfl ?_; refine L_fld (Rd.own m0) (ty rfl) rfl ?_; refine S_q rfl rfl rfl (Q_build rfl (by decide +kernel) (zer rfl) ⟨_, _, _, _, _, _, _, rfl, fld rfl rfl, ty rfl, rfl, rfl, ⟨_, _, _, _, _, _, _, rfl, fld rfl rfl, ty rfl, rfl, rfl, ⟨_, _, _, _, _, _, _, rfl, fld rfl rfl, ty rfl, rfl, rfl, rfl, rfl⟩, rfl⟩, rfl⟩ rfl) ?_; refine S_c rfl rfl rfl (C_alloc rfl (zer rfl) ?_); intro b8_3; refine S_w0 rfl rfl (W_all rfl rfl rfl (ty rfl) u0 (by first | rfl | assumption) (by first | rfl | assumption) (by first | rfl | assumption | exact ones_sub ‹_› _ _) ?_); refine On ?_; refine WP_seq ?_; refine Wr ?_; refine Sf rfl rfl rfl rfl rfl (fld rfl rfl) ?_; refine S_load rfl rfl rfl rfl rfl ?_; refine L_fld (Rd.own m1) (ty rfl) rfl ?_; refine S_q rfl rfl rfl (Q_len rfl rfl rfl rfl rfl rfl) ?_; refine Sm rfl ?_; refine On ?_; refine WP_block ?_)); rotate_left 1))
      · rw [if_neg (by simp [isMove, c8_2])] at hsn
        refine bodyS_n (gs, p, c, M) ?_ (by repeat' first | exact sR _ | exact sA _ _ | exact sN _ | apply s2 | apply s1)
        refine ⟨hl2, ?_, hO⟩
        simp only; rw [hsn, List.append_nil]; exact hgs
      rw [if_pos (by simp [isMove, c8_2])] at hsn
      (focus (refine WP_keepM [_] [_] _ rfl ?_; rintro h9_k l9_k k9_k; have a9_k := at_of_keep k9_k; clear k9_k; replace hO := hO.up l9_k; replace it5_2 := it5_2.up l9_k; replace a1_k := a1_k.up l9_k; replace ff0_2 := ff0_2.up l9_k; replace hs := hs.up l9_k; replace ha := ha.up l9_k; replace hfs := hfs.up l9_k; replace hm := hm.up l9_k))
      (focus (refine WP_keepM [_] [_] _ rfl ?_; rintro h10_k l10_k k10_k; have a10_k := at_of_keep k10_k; clear k10_k; replace a9_k := a9_k.up l10_k; replace hO := hO.up l10_k; replace it5_2 := it5_2.up l10_k; replace a1_k := a1_k.up l10_k; replace ff0_2 := ff0_2.up l10_k; replace hs := hs.up l10_k; replace ha := ha.up l10_k; replace hfs := hfs.up l10_k; replace hm := hm.up l10_k))
      (focus (refine WP_keepM [_] [_] _ rfl ?_; rintro h11_k l11_k k11_k; have a11_k := at_of_keep k11_k; clear k11_k; replace a10_k := a10_k.up l11_k; replace a9_k := a9_k.up l11_k; replace hO := hO.up l11_k; replace it5_2 := it5_2.up l11_k; replace a1_k := a1_k.up l11_k; replace ff0_2 := ff0_2.up l11_k; replace hs := hs.up l11_k; replace ha := ha.up l11_k; replace hfs := hfs.up l11_k; replace hm := hm.up l11_k))
      (refine WP_loopF (α := Nat × List Val × Option Addr × Nat × Hp) [48, 47, 11, 9, 8, 5, 4] (fun (s : Nat × List Val × Option Addr × Nat × Hp) => x.msg.parcel.fields.length - s.1) (fun (s : Nat × List Val × Option Addr × Nat × Hp) => (b8_3, cells [.int .i64 x.msg.parcel.id.1, .int .i64 x.msg.parcel.id.2, .int .i64 x.msg.parcel.kind, .int .i64 x.msg.parcel.cls, .slice s.2.2.1 s.2.1.length s.2.2.2.1] 38) :: (b0_4, cells [.slice p gs.length c] 98) :: (b0_1, cells [.slice none 0 0] 27) :: (s.2.2.2.2 ++ (M ++ []))) (fun (s : Nat × List Val × Option Addr × Nat × Hp) => [(49, .int .i64 (s.1 : Int))]) (fun hh (s : Nat × List Val × Option Addr × Nat × Hp) => hh = h11_k ∧ s.1 ≤ x.msg.parcel.fields.length ∧ s.2.1 = (x.msg.parcel.fields.take s.1).map (valueOf vs v.machine x.to) ∧ OS h11_k 42 4 ValC (.slice s.2.2.1 s.2.1.length s.2.2.2.1) s.2.1 s.2.2.2.2) (0, [], none, 0, []) ⟨_, _, rfl, ⟨_, _, rfl, ⟨_, _, rfl, ⟨_, _, rfl, ⟨_, _, rfl, ⟨_, _, rfl, ⟨_, _, rfl, rfl, rfl⟩, rfl⟩, rfl⟩, rfl⟩, rfl⟩, rfl⟩, rfl⟩ ?_ (by repeat' first | exact sR _ | exact sA _ _ | exact sN _ | apply s2 | apply s1) (by repeat' first | exact trivial | refine ⟨rfl, ?_⟩) ?_)
      · exact ⟨rfl, Nat.zero_le _, rfl, OS.nil _ _ _ _⟩
      rintro h3 ⟨k, fs, p2, c2, M2⟩ _ ⟨rfl, hk, hfe, hO2⟩
      simp only at hk hfe hO2
      dsimp only
      have hfl2 : fs.length = k := by rw [hfe]; simp; omega
      by_cases hlt : k < x.msg.parcel.fields.length
      · obtain ⟨r, er⟩ := get_of hlt
        (focus (refine Wr ?_; refine Sc rfl rfl rfl rfl rfl rfl rfl ?_; refine On ?_; refine WP_seq ?_; refine WP_cond rfl (fun c13_1 => ?_) (fun c13_1 => ?_) <;> (first | (simp [*] at c13_1; done) | (try simp at c13_1)); refine WP_skip ?_; refine then_n ?_; refine WP_seq ?_; refine WP_block ?_; refine Wr ?_; refine S_q rfl rfl rfl (Q_indexS ‹_› ‹_› rfl rfl rfl (elm rfl) rfl) ?_; refine S_load rfl rfl rfl rfl rfl ?_; refine L_elA ‹_› ‹_› (ty rfl) ?_; rintro _ _ _ rfl; refine S_c rfl rfl rfl (C_alloc rfl (zer rfl) ?_); intro b13_3; refine S_w0 rfl rfl (W_all rfl rfl rfl (ty rfl) u0 (by first | rfl | assumption) (by first | rfl | assumption) (by first | rfl | assumption | exact ones_sub ‹_› _ _) ?_); refine On ?_; refine R_draw (n := 13) mixed rfl ?_; refine A_at 0 rfl rfl ?_; refine A_q (m' := 1) rfl rfl rfl (Q_fieldAddr rfl rfl (fld rfl rfl)) rfl (by decide +kernel) ?_; refine A_at 1 rfl rfl ?_; refine A_load (m' := 3) rfl rfl rfl rfl rfl rfl (by decide +kernel) ?_; refine L_fld (Rd.own m1) (ty rfl) rfl ?_; refine A_at 2 rfl rfl ?_; refine A_load (m' := 7) rfl rfl rfl rfl rfl rfl (by decide +kernel) ?_; refine L_agg (Rd.pers ‹_›) (ty rfl) (by first | rfl | assumption) ?_; refine A_at 3 rfl rfl ?_; refine A_q (m' := 15) rfl rfl rfl (Q_fieldAddr rfl rfl (fld rfl rfl)) rfl (by decide +kernel) ?_; refine A_at 4 rfl rfl ?_; refine A_load (m' := 31) rfl rfl rfl rfl rfl rfl (by decide +kernel) ?_; refine L_fld (Rd.pers ‹_›) (ty rfl) rfl ?_; refine A_at 5 rfl rfl ?_; refine A_q (m' := 63) rfl rfl rfl (Q_fieldAddr rfl rfl (fld rfl rfl)) rfl (by decide +kernel) ?_; refine A_at 6 rfl rfl ?_; refine A_load (m' := 127) rfl rfl rfl rfl rfl rfl (by decide +kernel) ?_; refine L_fld (Rd.pers ‹_›) (ty rfl) rfl ?_; refine A_at 7 rfl rfl ?_; refine A_load (m' := 255) rfl rfl rfl rfl rfl rfl (by decide +kernel) ?_; refine L_agg (Rd.own m0) (ty rfl) (by first | rfl | assumption) ?_; refine A_at 8 rfl rfl ?_; refine A_c (m' := 511) rfl rfl rfl rfl (by decide +kernel) (C_callv (value_s ‹_›) rfl rfl ⟨_, _, rfl, ⟨_, _, rfl, ⟨_, _, rfl, ⟨_, _, rfl, rfl, rfl⟩, rfl⟩, rfl⟩, rfl⟩ (cal rfl) ?_); refine A_at 9 rfl rfl ?_; refine A_c (m' := 1023) rfl rfl rfl rfl (by decide +kernel) (C_buildSlice rfl (elm rfl) (zer rfl) rfl ⟨_, _, _, rfl, rfl, rfl, rfl, rfl, rfl⟩ rfl rfl ?_); intro b13_4; refine A_at 10 rfl rfl ?_; refine A_w (m' := 2047) rfl rfl rfl rfl rfl (by decide +kernel) (W_app1 [_, _, _, _] _ ‹_› rfl rfl rfl rfl rfl rfl (elm rfl) (zer rfl) rfl rfl rfl rfl rfl (by (try simp only [lA]); omega) (by (try simp only [lA]); omega) ?_); rintro p13_5 q13_5 m13_5 o13_5; refine A_at 11 rfl rfl ?_; refine A_q (m' := 4095) rfl rfl rfl (Q_fieldAddr rfl rfl (fld rfl rfl)) rfl (by decide +kernel) ?_; refine A_at 12 rfl rfl ?_; refine A_w0 (m' := 8191) rfl rfl rfl rfl (by decide +kernel) (W_fld rfl rfl rfl (ty rfl) u1 rfl rfl rfl rfl ?_); refine A_done (by decide +kernel) ?_; refine block_n ?_; refine then_n ?_; refine R_region ?_; refine S_q rfl rfl rfl (Q_add rfl rfl rfl (by omega)) ?_; refine Sm rfl ?_; refine OPS_nil ?_))
        refine roundF_n (k + 1, fs ++ [valueOf vs v.machine x.to r], p13_5, q13_5, m13_5) (by simp only; omega) ⟨rfl, by simp only; omega, ?_, o13_5⟩ (by repeat' first | exact sR _ | exact sA _ _ | exact sN _ | apply s2 | apply s1) (by repeat' first | exact trivial | refine ⟨rfl, ?_⟩)
        simp only; rw [hfe, List.take_add_one, er]; simp
      · have hge : k = x.msg.parcel.fields.length := by omega
        subst hge
        rw [List.take_length] at hfe
        refine WP_keepM [_, _, _] M2 _ rfl fun h4 hl4 hm4 => ?_
        have hN : SL h4 4 ValC (.slice p2 fs.length c2) fs := hO2.sl hl4 ValC_mono hm4 (by omega)
        clear hO2 hm4
        (replace a11_k := a11_k.up hl4; replace a10_k := a10_k.up hl4; replace a9_k := a9_k.up hl4; replace hO := hO.up hl4; replace it5_2 := it5_2.up hl4; replace a1_k := a1_k.up hl4; replace ff0_2 := ff0_2.up hl4; replace hs := hs.up hl4; replace ha := ha.up hl4; replace hfs := hfs.up hl4; replace hm := hm.up hl4)
        have hmo : movedOf vs (v, x) = ⟨x.msg.parcel.id, x.msg.parcel.kind, x.msg.parcel.cls, fs⟩ := by rw [movedOf, hfe]
        rw [hmo] at hsn
        (focus (refine Wr ?_; refine Sc rfl rfl rfl rfl rfl rfl rfl ?_; refine On ?_; refine WP_seq ?_; refine WP_cond rfl (fun c15_1 => ?_) (fun c15_1 => ?_) <;> (first | (simp [*] at c15_1; done) | (try simp at c15_1)); refine WP_exit ?_; refine then_e ?_; refine roundF_e ?_; refine block_e ?_; refine then_n ?_; refine R_region ?_; refine S_load rfl rfl rfl rfl rfl ?_; refine L_one (Rd.own m1) (ty rfl) ?_; refine S_load rfl rfl rfl rfl rfl ?_; refine L_agg (Rd.own m0) (ty rfl) (by first | rfl | assumption) ?_; refine S_c rfl rfl rfl (C_buildSlice rfl (elm rfl) (zer rfl) rfl ⟨_, _, _, rfl, rfl, rfl, rfl, rfl, rfl⟩ rfl rfl ?_); intro b15_2; refine S_q rfl rfl rfl (Q_build rfl (by decide +kernel) (zer rfl) ⟨_, _, _, _, _, _, _, rfl, fld rfl rfl, ty rfl, rfl, rfl, rfl, rfl⟩ rfl) ?_; refine S_c rfl rfl rfl (C_buildSlice rfl (elm rfl) (zer rfl) rfl ⟨_, _, _, rfl, rfl, rfl, rfl, rfl, rfl⟩ rfl rfl ?_); intro b15_3))
        (focus (refine OPS_keepM [_] [_] _ rfl ?_; rintro h16_k l16_k k16_k; have a16_k := at_of_keep k16_k; clear k16_k; replace hN := hN.up l16_k; replace a11_k := a11_k.up l16_k; replace a10_k := a10_k.up l16_k; replace a9_k := a9_k.up l16_k; replace hO := hO.up l16_k; replace it5_2 := it5_2.up l16_k; replace a1_k := a1_k.up l16_k; replace ff0_2 := ff0_2.up l16_k; replace hs := hs.up l16_k; replace ha := ha.up l16_k; replace hfs := hfs.up l16_k; replace hm := hm.up l16_k))
        refine S_w rfl rfl rfl (W_app1 (y := [(⟨x.msg.parcel.id, x.msg.parcel.kind, x.msg.parcel.cls, fs⟩ : Nd)]) (by_ := 24) [_, _, _] _ hO rfl rfl rfl rfl rfl rfl (elm rfl) (zer rfl) rfl rfl rfl rfl ⟨_, _, rfl, slb_of_at a16_k (Flat.one rfl rfl ⟨_, _, rfl, hN⟩) (by simp)⟩ (by omega) (by omega) ?_)
        rintro p3 c3 M3 hO3
        (focus (refine S_w0 rfl rfl (W_one rfl rfl rfl (ty rfl) u1 rfl rfl rfl ?_); refine OPS_nil ?_; refine block_n ?_))
        refine bodyS_n (gs ++ [[(⟨x.msg.parcel.id, x.msg.parcel.kind, x.msg.parcel.cls, fs⟩ : Nd)]], p3, c3, M3) ?_ (by repeat' first | exact sR _ | exact sA _ _ | exact sN _ | apply s2 | apply s1)
        refine ⟨le_trans hl2 (le_trans l9_k (le_trans l10_k (le_trans l11_k (le_trans hl4 l16_k)))), ?_, hO3⟩
        simp only; rw [hsn, hgs, List.append_assoc]
    · clear hO hgl hgs M p c gs
      rintro d h2 ⟨gs, p, c, M⟩ hl1 ⟨hl2, hgs, hO⟩
      simp only at hgs hO
      (replace it5_2 := it5_2.up hl1; replace a1_k := a1_k.up hl1; replace ff0_2 := ff0_2.up hl1; replace hs := hs.up hl1)
      have hb := sm.parts
      have hgr : unionR gs = graphR vs := by rw [graphR, graphParts, hgs]
      have hgl : gs.length ≤ 35 := by
        rw [hgs, List.length_append, List.length_map]; have := movedG_len vs (flightsOf vs); omega
      rw [graphParts, ← hgs] at hb
      (focus (refine block_n ?_; refine then_n ?_; refine Wr ?_; refine S_load rfl rfl rfl rfl rfl ?_; refine L_one (Rd.own m0) (ty rfl) ?_))
      refine OPS_keepM [_, _] M [dObj d] rfl fun h3 hl3 hm3 => ?_
      have hSL : SL h3 1 (GraphC 4398046511104) (.slice p gs.length c) gs := hO.sl hl3 (GraphC_mono _) hm3 (by omega)
      refine S_c rfl rfl rfl (C_call (union_s hSL hb) rfl rfl ⟨_, _, rfl, rfl, rfl⟩ (cal rfl) ?_)
      rintro h4 _ hl4 ⟨_, rfl, pg, cg, rfl, hg⟩
      (focus (refine S_q rfl rfl rfl (Q_extract rfl rfl rfl) ?_; refine S_q rfl rfl rfl (Q_extract rfl rfl rfl) ?_; refine S_w0 rfl rfl (W_all rfl rfl rfl (ty rfl) u1 (by first | rfl | assumption) (by first | rfl | assumption) (by first | rfl | assumption | exact ones_sub ‹_› _ _) ?_); refine Sm rfl ?_; refine On ?_; refine WP_ret ?_))
      refine nretP [_, _] (List.Sublist.refl _) (.inl rfl) rfl ⟨_, _, _, rfl, Loads_agg (Rd.own m1) (ty rfl) rfl, ⟨_, _, rfl, rfl, rfl⟩, rfl⟩ ?_
      rw [← hgr]
      exact ⟨_, rfl, _, _, rfl, hg⟩
    · rintro d e h1 L1 hl1 hx _; exact hx.elim
end Go.Proofs.YtfhoecgiahpddaaGreat
/-
  CONTRACTS: observer.Roots, observer.Reachable.
-/
set_option linter.all false
namespace Go.Proofs.YtfhoecgiahpddaaGreat
open Go.Mesh Go.RowKit
set_option maxRecDepth 100000
set_option linter.unusedVariables false
set_option maxHeartbeats 4000000
attribute [local irreducible] WP OPS ANY ANYo LG LV FSpec PSpec QOP OPc OPw thenQ blockQ roundQ roundF retQ retM Rd At SLB OS cmpI orI cmpID namedB valB nodeB kindB validG valAux idxI findG zeroV viewOf vwAt idxOf recv flyB scionOf moveOf numberedOf idOf valueOf mget mput localB carriedB stubOf followF followOf flOf flightsOf flPre setL minusL compactL putI mergeN insN insAll unionR NMap Coll retN bodyS GMap Dfs refsV refsOf reachL movedOf movedG graphParts graphR isMove
/-- the roots of a flight -/
def flightIDs (vs : List View) (i : View × Flight) : List ID :=
  if i.2.msg.kind = 0 then numberedOf vs i.1.machine i.2.to i.2.msg.number :: i.2.msg.args.map (idOf vs i.1.machine i.2.to)
  else if i.2.msg.kind = 17 then [idOf vs i.1.machine i.2.to i.2.msg.ref]
  else if i.2.msg.kind = 1 then i.2.msg.parcel.mail.flatMap fun l => i.2.msg.parcel.id :: l.map (idOf vs i.1.machine i.2.to)
  else []
def mailIDs (m : MailE) : List ID := m.to :: refsV m.args
def viewIDs (v : View) : List ID := v.names ++ v.mail.flatMap mailIDs
def rawRoots (vs : List View) : List ID := vs.flatMap viewIDs ++ (flightsOf vs).flatMap (flightIDs vs)
def rootsR (vs : List View) : List ID := minusL (setL (rawRoots vs)) [(0, 0)]
theorem flightIDs_len {vs : List View} (s : Small vs) {i : View × Flight} (hi : i ∈ flightsOf vs) : (flightIDs vs i).length ≤ 28 := by
  obtain ⟨hv, hx⟩ := flightsOf_mem hi
  have h1 := s.letter _ hv _ hx
  have h2 := s.pmail _ hv _ hx
  have h3 := flatMap_le (fun l : List Ref => i.2.msg.parcel.id :: l.map (idOf vs i.1.machine i.2.to)) 7 i.2.msg.parcel.mail (fun m hm => by
    have := s.pargs _ hv _ hx m hm
    simp; omega)
  unfold flightIDs
  split
  · simp; omega
  split
  · simp
  split
  · omega
  · simp
theorem viewIDs_len {vs : List View} (s : Small vs) {v : View} (hv : v ∈ vs) : (viewIDs v).length ≤ 48 := by
  have h1 := s.names v hv
  have h2 := s.mail v hv
  have h3 := flatMap_le mailIDs 7 v.mail (fun m hm => by
    have := s.args v hv m hm
    have h4 := refsV_length m.args
    simp [mailIDs]; omega)
  simp only [viewIDs, List.length_append]; omega
theorem pre_len {vs : List View} (s : Small vs) {pre : List (View × Flight)} (h : pre <+: flightsOf vs) : (vs.flatMap viewIDs ++ pre.flatMap (flightIDs vs)).length ≤ 2000 := by
  have h1 := flatMap_le viewIDs 48 vs fun v hv => viewIDs_len s hv
  have h2 := flatMap_le (flightIDs vs) 28 pre fun i hi => flightIDs_len s (h.subset hi)
  have h3 := h.length_le
  have h4 := s.fl
  have h5 := s.len
  simp only [List.length_append]; omega
theorem raw_len {vs : List View} (s : Small vs) : (rawRoots vs).length ≤ 2000 := pre_len s (List.prefix_refl _)
theorem roots_len {vs : List View} (s : Small vs) : (rootsR vs).length ≤ 2000 := by
  have h1 := setL_length (setL (rawRoots vs))
  have h2 := setL_length (rawRoots vs)
  have h3 := raw_len s
  rw [rootsR, minusL]
  exact Nat.le_trans (List.length_filter_le _ _) (by omega)
theorem flatMap_take {α β : Type} (f : α → List β) {l : List α} {k : Nat} {x : α} (hx : l[k]? = some x) : (l.take (k + 1)).flatMap f = (l.take k).flatMap f ++ f x := by
  simp [List.take_add_one, hx]
theorem map_take {α β : Type} (f : α → β) {l : List α} {k : Nat} {x : α} (hx : l[k]? = some x) : (l.take (k + 1)).map f = (l.take k).map f ++ [f x] := by
  simp [List.take_add_one, hx]
theorem flatMap_take_len {vs : List View} (s : Small vs) (k : Nat) : ((vs.take k).flatMap viewIDs).length ≤ 240 := by
  have h1 := flatMap_le viewIDs 48 (vs.take k) fun v hv => viewIDs_len s (List.mem_of_mem_take hv)
  have h2 : (vs.take k).length ≤ 5 := by rw [List.length_take]; have := s.len; omega
  omega
attribute [local irreducible] flightIDs mailIDs viewIDs rawRoots rootsR
theorem rootsAdd_s {h : Frag} {p : Option Addr} {c : Nat} {out : List ID} {M : Hp} {b4 b3 b13 b14 : Nat} {cs us ws : List Value} {vs : List View} {mf mt : Int} {l : Value} {rs : List Ref}
    (h3 : At h b3 0 cs) (hf : FleetC h vs cs) (h13 : At h b13 0 (.int .i64 mf :: us)) (h14 : At h b14 0 (.int .i64 mt :: ws)) (hl : SL h 8 RefC l rs) (ho : OS h 35 2 IDC (.slice p out.length c) out M) (hb : out.length + rs.length ≤ 1000000) :
    FSpec Tryz.prog 38 #[l, ptr b4 0, ptr b3 0, ptr b13 0, ptr b14 0] h ((b4, cells [.slice p out.length c] 31) :: M)
      (fun h' L' _ => h' = h ∧ ∃ p' c' M', L' = (b4, cells [.slice p' (out ++ rs.map (idOf vs mf mt)).length c'] 31) :: M' ∧ OS h 35 2 IDC (.slice p' (out ++ rs.map (idOf vs mf mt)).length c') (out ++ rs.map (idOf vs mf mt)) M') := by
  obtain ⟨pl, cl, rfl⟩ := hl.slice
  obtain ⟨pf, qf, mb, ms, rfl, fv, fm, fq⟩ := hf
  have hf : FleetC h vs [.slice pf vs.length qf, .map (some mb)] := ⟨pf, qf, mb, ms, rfl, fv, fm, fq⟩
  clear fq fm fv
  rw [show (b4, cells [Value.slice p out.length c] 31) :: M = (b4, cells [Value.slice p out.length c] 31) :: (M ++ []) by rw [List.append_nil]]
  refine spec_of (vs := [.slice pl rs.length cl, ptr b4 0, ptr b3 0, ptr b13 0, ptr b14 0]) Tryz.func38 Tryz.ntmps38 rfl rfl rfl ?_
  (focus (refine Wr ?_; refine Sm rfl ?_; refine S_q rfl rfl rfl (Q_len rfl rfl rfl rfl rfl rfl) ?_; refine Sm rfl ?_; refine On ?_; refine WP_block ?_))
  (refine WP_loopF (α := Nat × List ID × Option Addr × Nat × Hp) [9, 8, 1, 2, 3, 4] (fun (s : Nat × List ID × Option Addr × Nat × Hp) => rs.length - s.1) (fun (s : Nat × List ID × Option Addr × Nat × Hp) => (b4, cells [.slice s.2.2.1 s.2.1.length s.2.2.2.1] 31) :: (s.2.2.2.2 ++ [])) (fun (s : Nat × List ID × Option Addr × Nat × Hp) => [(10, .int .i64 (s.1 : Int))]) (fun hh (s : Nat × List ID × Option Addr × Nat × Hp) => hh = h ∧ s.1 ≤ rs.length ∧ s.2.1 = out ++ (rs.take s.1).map (idOf vs mf mt) ∧ OS h 35 2 IDC (.slice s.2.2.1 s.2.1.length s.2.2.2.1) s.2.1 s.2.2.2.2) (0, out, p, c, M) ⟨_, _, rfl, ⟨_, _, rfl, ⟨_, _, rfl, ⟨_, _, rfl, ⟨_, _, rfl, ⟨_, _, rfl, rfl, rfl⟩, rfl⟩, rfl⟩, rfl⟩, rfl⟩, rfl⟩ ?_ (by repeat' first | exact sR _ | exact sA _ _ | exact sN _ | apply s2 | apply s1) (by repeat' first | exact trivial | refine ⟨rfl, ?_⟩) ?_)
  · exact ⟨rfl, Nat.zero_le _, by simp, ho⟩
  rintro h1 ⟨k, oo, p1, c1, M1⟩ _ ⟨rfl, hk, hoe, hO⟩
  simp only at hk hoe hO
  dsimp only
  have hol : oo.length = out.length + k := by rw [hoe]; simp; omega
  by_cases hlt : k < rs.length
  · obtain ⟨r, er⟩ := get_of hlt
    have hmt := map_take (idOf vs mf mt) er
    (focus (refine Wr ?_; refine Sc rfl rfl rfl rfl rfl rfl rfl ?_; refine On ?_; refine WP_seq ?_; refine WP_cond rfl (fun c2_1 => ?_) (fun c2_1 => ?_) <;> (first | (simp [*] at c2_1; done) | (try simp at c2_1)); refine WP_skip ?_; refine then_n ?_; refine WP_seq ?_; refine WP_block ?_; refine Wr ?_; refine S_q rfl rfl rfl (Q_indexS ‹_› ‹_› rfl rfl rfl (elm rfl) rfl) ?_; refine S_load rfl rfl rfl rfl rfl ?_; refine L_elA ‹_› ‹_› (ty rfl) ?_; rintro _ _ _ rfl; refine S_c rfl rfl rfl (C_alloc rfl (zer rfl) ?_); intro b2_3; refine S_w0 rfl rfl (W_all rfl rfl rfl (ty rfl) u0 (by first | rfl | assumption) (by first | rfl | assumption) (by first | rfl | assumption | exact ones_sub ‹_› _ _) ?_); refine On ?_; refine R_draw (n := 11) mixed rfl ?_; refine A_at 0 rfl rfl ?_; refine A_load (m' := 1) rfl rfl rfl rfl rfl rfl (by decide +kernel) ?_; refine L_one (Rd.own m1) (ty rfl) ?_; refine A_at 1 rfl rfl ?_; refine A_load (m' := 3) rfl rfl rfl rfl rfl rfl (by decide +kernel) ?_; refine L_agg (Rd.pers ‹_›) (ty rfl) (by first | rfl | assumption) ?_; refine A_at 2 rfl rfl ?_; refine A_q (m' := 7) rfl rfl rfl (Q_fieldAddr rfl rfl (fld rfl rfl)) rfl (by decide +kernel) ?_; refine A_at 3 rfl rfl ?_; refine A_load (m' := 15) rfl rfl rfl rfl rfl rfl (by decide +kernel) ?_; refine L_fld (Rd.pers ‹_›) (ty rfl) rfl ?_; refine A_at 4 rfl rfl ?_; refine A_q (m' := 31) rfl rfl rfl (Q_fieldAddr rfl rfl (fld rfl rfl)) rfl (by decide +kernel) ?_; refine A_at 5 rfl rfl ?_; refine A_load (m' := 63) rfl rfl rfl rfl rfl rfl (by decide +kernel) ?_; refine L_fld (Rd.pers ‹_›) (ty rfl) rfl ?_; refine A_at 6 rfl rfl ?_; refine A_load (m' := 127) rfl rfl rfl rfl rfl rfl (by decide +kernel) ?_; refine L_agg (Rd.own m0) (ty rfl) (by first | rfl | assumption) ?_; refine A_at 7 rfl rfl ?_; refine A_c (m' := 255) rfl rfl rfl rfl (by decide +kernel) (C_callv (id_s ‹_›) rfl rfl ⟨_, _, rfl, ⟨_, _, rfl, ⟨_, _, rfl, ⟨_, _, rfl, rfl, rfl⟩, rfl⟩, rfl⟩, rfl⟩ (cal rfl) ?_); refine A_at 8 rfl rfl ?_; refine A_c (m' := 511) rfl rfl rfl rfl (by decide +kernel) (C_buildSlice rfl (elm rfl) (zer rfl) rfl ⟨_, _, _, rfl, rfl, rfl, rfl, rfl, rfl⟩ rfl rfl ?_); intro b2_4; refine A_at 9 rfl rfl ?_; refine A_w (m' := 1023) rfl rfl rfl rfl rfl (by decide +kernel) (W_app1 [_, _] _ ‹_› rfl rfl rfl rfl rfl rfl (elm rfl) (zer rfl) rfl rfl rfl rfl rfl (by (try simp only [lA]); omega) (by (try simp only [lA]); omega) ?_); rintro p2_5 q2_5 m2_5 o2_5; refine A_at 10 rfl rfl ?_; refine A_w0 (m' := 2047) rfl rfl rfl rfl (by decide +kernel) (W_one rfl rfl rfl (ty rfl) u1 rfl rfl rfl ?_); refine A_done (by decide +kernel) ?_; refine block_n ?_; refine then_n ?_; refine R_region ?_; refine S_q rfl rfl rfl (Q_add rfl rfl rfl (by omega)) ?_; refine Sm rfl ?_; refine OPS_nil ?_))
    refine roundF_n (k + 1, oo ++ [idOf vs mf mt r], p2_5, q2_5, m2_5) (by simp only; omega) ⟨rfl, by simp only; omega, ?_, o2_5⟩ (by repeat' first | exact sR _ | exact sA _ _ | exact sN _ | apply s2 | apply s1) (by repeat' first | exact trivial | refine ⟨rfl, ?_⟩)
    simp only; rw [hmt, hoe, List.append_assoc]
  · have hge : k = rs.length := by omega
    subst hge
    rw [List.take_length] at hoe
    subst hoe
    (focus (refine Wr ?_; refine Sc rfl rfl rfl rfl rfl rfl rfl ?_; refine On ?_; refine WP_seq ?_; refine WP_cond rfl (fun c3_1 => ?_) (fun c3_1 => ?_) <;> (first | (simp [*] at c3_1; done) | (try simp at c3_1)); refine WP_exit ?_; refine then_e ?_; refine roundF_e ?_; refine block_e ?_))
    exact ret_q (_ :: M1) (.inr rfl) rfl rfl (by simp) ⟨rfl, p1, c1, M1, rfl, hO⟩
theorem roots_s {h : Frag} {a : Value} {vs : List View} (hs : SL h 13 (ViewC 4398046511104) a vs) (sm : Small vs) : PSpec Tryz.prog 13 #[a] h (fun h' v => ∃ p c, v = .slice p (rootsR vs).length c ∧ SL h' 2 IDC (.slice p (rootsR vs).length c) (rootsR vs)) := by
  have hlen := sm.len
  obtain ⟨pv, cv, rfl⟩ := hs.slice
  refine pspec_ofN (vs := [.slice pv vs.length cv]) Tryz.func13 Tryz.ntmps13 rfl rfl ?_
  (focus (refine Wr ?_; refine Sm rfl ?_; refine On ?_; refine Wr ?_; refine Sm rfl ?_; refine S_c rfl rfl rfl (C_call (of_s ‹_›) rfl rfl ⟨_, _, rfl, rfl, rfl⟩ (cal rfl) ?_); rintro h0_1 _ l0_1 ⟨pf0_1, qf0_1, mb0_1, rfl, ff0_1⟩; replace hs := hs.up l0_1; refine S_c rfl rfl rfl (C_alloc rfl (zer rfl) ?_); intro b0_2; refine S_w0 rfl rfl (W_all rfl rfl rfl (ty rfl) u0 (by first | rfl | assumption) (by first | rfl | assumption) (by first | rfl | assumption | exact ones_sub ‹_› _ _) ?_); refine On ?_; refine Wr ?_; refine S_c rfl rfl rfl (C_alloc rfl (zer rfl) ?_); intro b0_3; refine On ?_; refine WP_seq ?_; refine Wr ?_; refine Sm rfl ?_; refine S_q rfl rfl rfl (Q_len rfl rfl rfl rfl rfl rfl) ?_; refine Sm rfl ?_; refine On ?_; refine WP_block ?_))
  (focus (refine WP_keepM [_] [_] _ rfl ?_; rintro h1_k l1_k k1_k; have a1_k := at_of_keep k1_k; clear k1_k; replace ff0_1 := ff0_1.up l1_k; replace hs := hs.up l1_k))
  (refine WP_loopF (α := Nat × List ID × Option Addr × Nat × Hp) [22, 21, 4, 3] (fun (s : Nat × List ID × Option Addr × Nat × Hp) => vs.length - s.1) (fun (s : Nat × List ID × Option Addr × Nat × Hp) => (b0_3, cells [.slice s.2.2.1 s.2.1.length s.2.2.2.1] 31) :: (s.2.2.2.2 ++ [])) (fun (s : Nat × List ID × Option Addr × Nat × Hp) => [(23, .int .i64 (s.1 : Int))]) (fun hh (s : Nat × List ID × Option Addr × Nat × Hp) => hh = h1_k ∧ s.1 ≤ vs.length ∧ s.2.1 = (vs.take s.1).flatMap viewIDs ∧ OS h1_k 35 2 IDC (.slice s.2.2.1 s.2.1.length s.2.2.2.1) s.2.1 s.2.2.2.2) (0, [], none, 0, []) ⟨_, _, rfl, ⟨_, _, rfl, ⟨_, _, rfl, ⟨_, _, rfl, rfl, rfl⟩, rfl⟩, rfl⟩, rfl⟩ ?_ (by repeat' first | exact sR _ | exact sA _ _ | exact sN _ | apply s2 | apply s1) (by repeat' first | exact trivial | refine ⟨rfl, ?_⟩) ?_)
  · exact ⟨rfl, Nat.zero_le _, rfl, OS.nil _ _ _ _⟩
  rintro h1 ⟨k, out, p, c, M⟩ _ ⟨rfl, hk, hoe, hO⟩
  simp only at hk hoe hO
  dsimp only
  have hol : out.length ≤ 240 := by rw [hoe]; exact flatMap_take_len sm k
  by_cases hlt : k < vs.length
  · obtain ⟨v, ev⟩ := get_of hlt
    have hvm : v ∈ vs := List.mem_of_getElem? ev
    have hn6 := sm.names v hvm
    have hm6 := sm.mail v hvm
    have ha6 := sm.args v hvm
    have hvt := flatMap_take viewIDs ev
    (focus (refine Wr ?_; refine Sc rfl rfl rfl rfl rfl rfl rfl ?_; refine On ?_; refine WP_seq ?_; refine WP_cond rfl (fun c3_1 => ?_) (fun c3_1 => ?_) <;> (first | (simp [*] at c3_1; done) | (try simp at c3_1)); refine WP_skip ?_; refine then_n ?_; refine WP_seq ?_; refine WP_block ?_; refine Wr ?_; refine S_q rfl rfl rfl (Q_indexS ‹_› ‹_› rfl rfl rfl (elm rfl) rfl) ?_; refine S_load rfl rfl rfl rfl rfl ?_; refine L_elA ‹_› ‹_› (ty rfl) ?_; rintro _ _ _ ⟨xi3_2, xa3_2, po3_2, qo3_2, ps3_2, qs3_2, pc3_2, qc3_2, pn3_2, qn3_2, pm3_2, qm3_2, xw3_2, xv3_2, pf3_2, qf3_2, pr3_2, qr3_2, xe3_2, xf3_2, rfl, vo3_2, vs3_2, vc3_2, vn3_2, vm3_2, vf3_2, vr3_2⟩; refine S_c rfl rfl rfl (C_alloc rfl (zer rfl) ?_); intro b3_3; refine S_w0 rfl rfl (W_all rfl rfl rfl (ty rfl) u0 (by first | rfl | assumption) (by first | rfl | assumption) (by first | rfl | assumption | exact ones_sub ‹_› _ _) ?_); refine On ?_; refine WP_seq ?_; refine Wr ?_; refine Sf rfl rfl rfl rfl rfl (fld rfl rfl) ?_; refine S_load rfl rfl rfl rfl rfl ?_; refine L_fld (Rd.own m0) (ty rfl) rfl ?_; refine S_q rfl rfl rfl (Q_len rfl rfl rfl rfl rfl rfl) ?_; refine Sm rfl ?_; refine On ?_; refine WP_block ?_))
    (refine WP_loopM (α := Nat × List ID × Option Addr × Nat × Hp) [_]  _ [29, 28, 6, 23, 22, 21, 4, 3] (fun (s : Nat × List ID × Option Addr × Nat × Hp) => v.names.length - s.1) (fun (s : Nat × List ID × Option Addr × Nat × Hp) =>  ((b0_3, cells [.slice s.2.2.1 s.2.1.length s.2.2.2.1] 31) :: s.2.2.2.2)) (fun (s : Nat × List ID × Option Addr × Nat × Hp) => [(30, .int .i64 (s.1 : Int))]) (fun hh (s : Nat × List ID × Option Addr × Nat × Hp) => hh = h1 ∧ s.1 ≤ v.names.length ∧ s.2.1 = out ++ v.names.take s.1 ∧ OS h1 35 2 IDC (.slice s.2.2.1 s.2.1.length s.2.2.2.1) s.2.1 s.2.2.2.2) (0, out, p, c, M) rfl ⟨_, _, rfl, ⟨_, _, rfl, ⟨_, _, rfl, ⟨_, _, rfl, ⟨_, _, rfl, ⟨_, _, rfl, ⟨_, _, rfl, ⟨_, _, rfl, rfl, rfl⟩, rfl⟩, rfl⟩, rfl⟩, rfl⟩, rfl⟩, rfl⟩, rfl⟩ (by repeat' first | exact trivial | refine ⟨rfl, ?_⟩) ?_ ?_)
    · exact ⟨rfl, Nat.zero_le _, by simp, hO⟩
    clear hO M p c
    rintro h2 ⟨j, oo, p, c, M⟩ _ ⟨rfl, hj, hoo, hO⟩
    simp only at hj hoo hO
    dsimp only
    have hool : oo.length ≤ out.length + 6 := by rw [hoo, List.length_append, List.length_take]; omega
    by_cases hlt2 : j < v.names.length
    · obtain ⟨⟨n1, n2⟩, en⟩ := get_of hlt2
      (focus (refine Wr ?_; refine Sc rfl rfl rfl rfl rfl rfl rfl ?_; refine On ?_; refine WP_seq ?_; refine WP_cond rfl (fun c5_1 => ?_) (fun c5_1 => ?_) <;> (first | (simp [*] at c5_1; done) | (try simp at c5_1)); refine WP_skip ?_; refine then_n ?_; refine WP_seq ?_; refine WP_block ?_; refine Wr ?_; refine S_q rfl rfl rfl (Q_indexS ‹_› ‹_› rfl rfl rfl (elm rfl) rfl) ?_; refine S_load rfl rfl rfl rfl rfl ?_; refine L_elA ‹_› ‹_› (ty rfl) ?_; rintro _ _ _ ⟨xa5_2, rfl⟩; refine S_c rfl rfl rfl (C_alloc rfl (zer rfl) ?_); intro b5_3; refine S_w0 rfl rfl (W_all rfl rfl rfl (ty rfl) u0 (by first | rfl | assumption) (by first | rfl | assumption) (by first | rfl | assumption | exact ones_sub ‹_› _ _) ?_); refine On ?_; refine R_region ?_; refine S_load rfl rfl rfl rfl rfl ?_; refine L_one (Rd.own m2) (ty rfl) ?_; refine Sf rfl rfl rfl rfl rfl (fld rfl rfl) ?_; refine S_load rfl rfl rfl rfl rfl ?_; refine L_sub (Rd.own m0) (ty rfl) rfl ?_; refine S_c rfl rfl rfl (C_buildSlice rfl (elm rfl) (zer rfl) rfl ⟨_, _, _, rfl, rfl, rfl, rfl, rfl, rfl⟩ rfl rfl ?_); intro b5_4; refine S_w rfl rfl rfl (W_app1 [_, _, _] _ ‹_› rfl rfl rfl rfl rfl rfl (elm rfl) (zer rfl) rfl rfl rfl rfl rfl (by (try simp only [lA]); omega) (by (try simp only [lA]); omega) ?_); rintro p5_5 q5_5 m5_5 o5_5; refine S_w0 rfl rfl (W_one rfl rfl rfl (ty rfl) u2 rfl rfl rfl ?_); refine OPS_nil ?_; refine block_n ?_; refine then_n ?_; refine R_region ?_; refine S_q rfl rfl rfl (Q_add rfl rfl rfl (by omega)) ?_; refine Sm rfl ?_; refine OPS_nil ?_))
      refine roundF_n (j + 1, oo ++ [(n1, n2)], p5_5, q5_5, m5_5) (by simp only; omega) ⟨rfl, by simp only; omega, ?_, o5_5⟩ (by repeat' first | exact sR _ | exact sA _ _ | exact sN _ | apply s2 | apply s1) (by repeat' first | exact trivial | refine ⟨rfl, ?_⟩)
      simp only; rw [hoo, List.take_add_one, en]; simp
    · have hge : j = v.names.length := by omega
      subst hge
      rw [List.take_length] at hoo
      (focus (refine Wr ?_; refine Sc rfl rfl rfl rfl rfl rfl rfl ?_; refine On ?_; refine WP_seq ?_; refine WP_cond rfl (fun c6_1 => ?_) (fun c6_1 => ?_) <;> (first | (simp [*] at c6_1; done) | (try simp at c6_1)); refine WP_exit ?_; refine then_e ?_; refine roundF_e ?_; refine block_e ?_; refine then_n ?_; refine Wr ?_; refine Sf rfl rfl rfl rfl rfl (fld rfl rfl) ?_; refine S_load rfl rfl rfl rfl rfl ?_; refine L_fld (Rd.own m0) (ty rfl) rfl ?_; refine S_q rfl rfl rfl (Q_len rfl rfl rfl rfl rfl rfl) ?_; refine Sm rfl ?_; refine On ?_; refine WP_block ?_))
      (refine WP_loopM (α := Nat × List ID × Option Addr × Nat × Hp) [_]  _ [42, 41, 23, 22, 21, 4, 3] (fun (s : Nat × List ID × Option Addr × Nat × Hp) => v.mail.length - s.1) (fun (s : Nat × List ID × Option Addr × Nat × Hp) =>  ((b0_3, cells [.slice s.2.2.1 s.2.1.length s.2.2.2.1] 31) :: s.2.2.2.2)) (fun (s : Nat × List ID × Option Addr × Nat × Hp) => [(43, .int .i64 (s.1 : Int))]) (fun hh (s : Nat × List ID × Option Addr × Nat × Hp) => hh = h2 ∧ s.1 ≤ v.mail.length ∧ s.2.1 = oo ++ (v.mail.take s.1).flatMap mailIDs ∧ OS h2 35 2 IDC (.slice s.2.2.1 s.2.1.length s.2.2.2.1) s.2.1 s.2.2.2.2) (0, oo, p, c, M) rfl ⟨_, _, rfl, ⟨_, _, rfl, ⟨_, _, rfl, ⟨_, _, rfl, ⟨_, _, rfl, ⟨_, _, rfl, ⟨_, _, rfl, rfl, rfl⟩, rfl⟩, rfl⟩, rfl⟩, rfl⟩, rfl⟩, rfl⟩ (by repeat' first | exact trivial | refine ⟨rfl, ?_⟩) ?_ ?_)
      · exact ⟨rfl, Nat.zero_le _, by simp, hO⟩
      clear hO M p c
      rintro h3 ⟨i, o3, p, c, M⟩ _ ⟨rfl, hi, ho3, hO⟩
      simp only at hi ho3 hO
      dsimp only
      have ho3l : o3.length ≤ oo.length + 42 := by
        have := flatMap_le mailIDs 7 (v.mail.take i) (fun m hm => by
          have h1 := ha6 m (List.mem_of_mem_take hm)
          have h2 := refsV_length m.args
          simp [mailIDs]; omega)
        rw [List.length_take] at this
        rw [ho3, List.length_append]; omega
      by_cases hlt3 : i < v.mail.length
      · obtain ⟨⟨⟨t1, t2⟩, ag⟩, em⟩ := get_of hlt3
        have hmt := flatMap_take mailIDs em
        have hag : ag.length ≤ 6 := ha6 _ (List.mem_of_getElem? em)
        (focus (refine Wr ?_; refine Sc rfl rfl rfl rfl rfl rfl rfl ?_; refine On ?_; refine WP_seq ?_; refine WP_cond rfl (fun c8_1 => ?_) (fun c8_1 => ?_) <;> (first | (simp [*] at c8_1; done) | (try simp at c8_1)); refine WP_skip ?_; refine then_n ?_; refine WP_seq ?_; refine WP_block ?_; refine Wr ?_; refine S_q rfl rfl rfl (Q_indexS ‹_› ‹_› rfl rfl rfl (elm rfl) rfl) ?_; refine S_load rfl rfl rfl rfl rfl ?_; refine L_elA ‹_› ‹_› (ty rfl) ?_; rintro _ _ _ ⟨xa8_2, xb8_2, xm8_2, pl8_2, ql8_2, rfl, fl8_2⟩; refine S_c rfl rfl rfl (C_alloc rfl (zer rfl) ?_); intro b8_3; refine S_w0 rfl rfl (W_all rfl rfl rfl (ty rfl) u0 (by first | rfl | assumption) (by first | rfl | assumption) (by first | rfl | assumption | exact ones_sub ‹_› _ _) ?_); refine On ?_; refine Wr ?_; refine S_load rfl rfl rfl rfl rfl ?_; refine L_one (Rd.own m2) (ty rfl) ?_; refine Sf rfl rfl rfl rfl rfl (fld rfl rfl) ?_; refine S_load rfl rfl rfl rfl rfl ?_; refine L_sub (Rd.own m0) (ty rfl) rfl ?_; refine S_c rfl rfl rfl (C_buildSlice rfl (elm rfl) (zer rfl) rfl ⟨_, _, _, rfl, rfl, rfl, rfl, rfl, rfl⟩ rfl rfl ?_); intro b8_4; refine S_w rfl rfl rfl (W_app1 [_, _, _] _ ‹_› rfl rfl rfl rfl rfl rfl (elm rfl) (zer rfl) rfl rfl rfl rfl rfl (by (try simp only [lA]); omega) (by (try simp only [lA]); omega) ?_); rintro p8_5 q8_5 m8_5 o8_5; refine S_w0 rfl rfl (W_one rfl rfl rfl (ty rfl) u2 rfl rfl rfl ?_); refine On ?_; refine Wr ?_; refine Sf rfl rfl rfl rfl rfl (fld rfl rfl) ?_; refine S_load rfl rfl rfl rfl rfl ?_; refine L_fld (Rd.own m0) (ty rfl) rfl ?_; refine S_q rfl rfl rfl (Q_len rfl rfl rfl rfl rfl rfl) ?_; refine Sm rfl ?_; refine On ?_; refine WP_block ?_))
        (refine WP_loopM (α := Nat × List ID × Option Addr × Nat × Hp) [_, _]  _ [54, 53, 43, 42, 41, 23, 22, 21, 4, 3] (fun (s : Nat × List ID × Option Addr × Nat × Hp) => ag.length - s.1) (fun (s : Nat × List ID × Option Addr × Nat × Hp) =>  ((b0_3, cells [.slice s.2.2.1 s.2.1.length s.2.2.2.1] 31) :: s.2.2.2.2)) (fun (s : Nat × List ID × Option Addr × Nat × Hp) => [(55, .int .i64 (s.1 : Int))]) (fun hh (s : Nat × List ID × Option Addr × Nat × Hp) => hh = h3 ∧ s.1 ≤ ag.length ∧ s.2.1 = (o3 ++ [(t1, t2)]) ++ refsV (ag.take s.1) ∧ OS h3 35 2 IDC (.slice s.2.2.1 s.2.1.length s.2.2.2.1) s.2.1 s.2.2.2.2) (0, o3 ++ [(t1, t2)], p8_5, q8_5, m8_5) rfl ⟨_, _, rfl, ⟨_, _, rfl, ⟨_, _, rfl, ⟨_, _, rfl, ⟨_, _, rfl, ⟨_, _, rfl, ⟨_, _, rfl, ⟨_, _, rfl, ⟨_, _, rfl, ⟨_, _, rfl, rfl, rfl⟩, rfl⟩, rfl⟩, rfl⟩, rfl⟩, rfl⟩, rfl⟩, rfl⟩, rfl⟩, rfl⟩ (by repeat' first | exact trivial | refine ⟨rfl, ?_⟩) ?_ ?_)
        · exact ⟨rfl, Nat.zero_le _, by simp [refsV_nil], o8_5⟩
        clear hO M p c
        rintro h4 ⟨r, o4, p, c, M⟩ _ ⟨rfl, hr, ho4, hO⟩
        simp only at hr ho4 hO
        dsimp only
        have ho4l : o4.length ≤ o3.length + 7 := by
          have := refsV_length (ag.take r)
          rw [List.length_take] at this
          rw [ho4]; simp only [List.length_append, List.length_cons, List.length_nil]; omega
        by_cases hlt4 : r < ag.length
        · obtain ⟨⟨f1, f2, i1, i2⟩, ex⟩ := get_of hlt4
          have htk := refsV_take ex
          (focus (refine Wr ?_; refine Sc rfl rfl rfl rfl rfl rfl rfl ?_; refine On ?_; refine WP_seq ?_; refine WP_cond rfl (fun c10_1 => ?_) (fun c10_1 => ?_) <;> (first | (simp [*] at c10_1; done) | (try simp at c10_1)); refine WP_skip ?_; refine then_n ?_; refine WP_seq ?_; refine WP_block ?_; refine Wr ?_; refine S_q rfl rfl rfl (Q_indexS ‹_› ‹_› rfl rfl rfl (elm rfl) rfl) ?_; refine S_load rfl rfl rfl rfl rfl ?_; refine L_elA ‹_› ‹_› (ty rfl) ?_; rintro _ _ _ rfl; refine S_c rfl rfl rfl (C_alloc rfl (zer rfl) ?_); intro b10_3; refine S_w0 rfl rfl (W_all rfl rfl rfl (ty rfl) u0 (by first | rfl | assumption) (by first | rfl | assumption) (by first | rfl | assumption | exact ones_sub ‹_› _ _) ?_); refine On ?_; refine Wr ?_; refine Sf rfl rfl rfl rfl rfl (fld rfl rfl) ?_; refine S_load rfl rfl rfl rfl rfl ?_; refine L_fld (Rd.own m0) (ty rfl) rfl ?_; refine Sc rfl rfl rfl rfl rfl rfl rfl ?_; refine On ?_; refine WP_cond rfl (fun c10_4 => ?_) (fun c10_4 => ?_) <;> (first | (simp [*] at c10_4; done) | (try simp at c10_4)); (focus (refine R_region ?_; refine S_load rfl rfl rfl rfl rfl ?_; refine L_one (Rd.own m3) (ty rfl) ?_; refine Sf rfl rfl rfl rfl rfl (fld rfl rfl) ?_; refine S_load rfl rfl rfl rfl rfl ?_; refine L_sub (Rd.own m0) (ty rfl) rfl ?_; refine S_c rfl rfl rfl (C_buildSlice rfl (elm rfl) (zer rfl) rfl ⟨_, _, _, rfl, rfl, rfl, rfl, rfl, rfl⟩ rfl rfl ?_); intro b10_5; refine S_w rfl rfl rfl (W_app1 [_, _, _, _] _ ‹_› rfl rfl rfl rfl rfl rfl (elm rfl) (zer rfl) rfl rfl rfl rfl rfl (by (try simp only [lA]); omega) (by (try simp only [lA]); omega) ?_); rintro p10_6 q10_6 m10_6 o10_6; refine S_w0 rfl rfl (W_one rfl rfl rfl (ty rfl) u3 rfl rfl rfl ?_); refine OPS_nil ?_; refine block_n ?_; refine then_n ?_; refine R_region ?_; refine S_q rfl rfl rfl (Q_add rfl rfl rfl (by omega)) ?_; refine Sm rfl ?_; refine OPS_nil ?_)); rotate_left 1; (focus (refine WP_skip ?_; refine block_n ?_; refine then_n ?_; refine R_region ?_; refine S_q rfl rfl rfl (Q_add rfl rfl rfl (by omega)) ?_; refine Sm rfl ?_; refine OPS_nil ?_)); rotate_left 1))
          · simp only [c10_4, if_true] at htk
            refine roundF_n (r + 1, o4 ++ [(i1, i2)], p10_6, q10_6, m10_6) (by simp only; omega) ⟨rfl, by simp only; omega, ?_, o10_6⟩ (by repeat' first | exact sR _ | exact sA _ _ | exact sN _ | apply s2 | apply s1) (by repeat' first | exact trivial | refine ⟨rfl, ?_⟩)
            simp only; rw [htk, ho4]; simp only [List.append_assoc]
          · simp only [c10_4, if_false, List.append_nil] at htk
            refine roundF_n (r + 1, o4, p, c, M) (by simp only; omega) ⟨rfl, by simp only; omega, ?_, hO⟩ (by repeat' first | exact sR _ | exact sA _ _ | exact sN _ | apply s2 | apply s1) (by repeat' first | exact trivial | refine ⟨rfl, ?_⟩)
            simp only; rw [htk, ho4]
        · have hge : r = ag.length := by omega
          subst hge
          rw [List.take_length] at ho4
          (focus (refine Wr ?_; refine Sc rfl rfl rfl rfl rfl rfl rfl ?_; refine On ?_; refine WP_seq ?_; refine WP_cond rfl (fun c11_1 => ?_) (fun c11_1 => ?_) <;> (first | (simp [*] at c11_1; done) | (try simp at c11_1)); refine WP_exit ?_; refine then_e ?_; refine roundF_e ?_; refine block_e ?_; refine block_n ?_; refine then_n ?_; refine R_region ?_; refine S_q rfl rfl rfl (Q_add rfl rfl rfl (by omega)) ?_; refine Sm rfl ?_; refine OPS_nil ?_))
          refine roundF_n (i + 1, o4, p, c, M) (by simp only; omega) ⟨rfl, by simp only; omega, ?_, hO⟩ (by repeat' first | exact sR _ | exact sA _ _ | exact sN _ | apply s2 | apply s1) (by repeat' first | exact trivial | refine ⟨rfl, ?_⟩)
          simp only; rw [hmt, ho4, ho3, mailIDs]; simp only [List.append_assoc, List.cons_append, List.nil_append]
      · have hge : i = v.mail.length := by omega
        subst hge
        rw [List.take_length] at ho3
        (focus (refine Wr ?_; refine Sc rfl rfl rfl rfl rfl rfl rfl ?_; refine On ?_; refine WP_seq ?_; refine WP_cond rfl (fun c12_1 => ?_) (fun c12_1 => ?_) <;> (first | (simp [*] at c12_1; done) | (try simp at c12_1)); refine WP_exit ?_; refine then_e ?_; refine roundF_e ?_; refine block_e ?_; refine block_n ?_; refine then_n ?_; refine R_region ?_; refine S_q rfl rfl rfl (Q_add rfl rfl rfl (by omega)) ?_; refine Sm rfl ?_; refine OPS_nil ?_))
        refine roundF_n (k + 1, o3, p, c, M) (by simp only; omega) ⟨rfl, by simp only; omega, ?_, hO⟩ (by repeat' first | exact sR _ | exact sA _ _ | exact sN _ | apply s2 | apply s1) (by repeat' first | exact trivial | refine ⟨rfl, ?_⟩)
        simp only; rw [hvt, ho3, hoo, hoe, viewIDs, List.append_assoc]
  · have hge : k = vs.length := by omega
    subst hge
    rw [List.take_length] at hoe
    (focus (refine Wr ?_; refine Sc rfl rfl rfl rfl rfl rfl rfl ?_; refine On ?_; refine WP_seq ?_; refine WP_cond rfl (fun c13_1 => ?_) (fun c13_1 => ?_) <;> (first | (simp [*] at c13_1; done) | (try simp at c13_1)); refine WP_exit ?_; refine then_e ?_; refine roundF_e ?_; refine block_e ?_; refine then_n ?_; refine WP_seq ?_; refine Wr ?_; refine S_load rfl rfl rfl rfl rfl ?_; refine L_agg (Rd.pers ‹_›) (ty rfl) (by first | rfl | assumption) ?_; refine S_c rfl rfl rfl (C_call (flights_s ‹_›) rfl rfl ⟨_, _, rfl, rfl, rfl⟩ (cal rfl) ?_); rintro h13_2 _ l13_2 ⟨bi13_2, rfl, it13_2⟩; replace a1_k := a1_k.up l13_2; replace ff0_1 := ff0_1.up l13_2; replace hs := hs.up l13_2; replace hO := hO.up l13_2; refine On ?_; refine WP_block ?_))
    refine WP_rangeS [] [] (fun s : List ID × Option Addr × Nat × Hp => (b0_3, cells [.slice s.2.1 s.1.length s.2.2.1] 31) :: s.2.2.2)
      (fun pre hh s => le h13_2 hh ∧ s.1 = vs.flatMap viewIDs ++ pre.flatMap (flightIDs vs) ∧ OS hh 35 2 IDC (.slice s.2.1 s.1.length s.2.2.1) s.1 s.2.2.2) (fun _ _ _ => False) (out, p, c, M) it13_2 rfl Tryz.func77 (by decide) rfl (by rintro _ _ _ ⟨_, _, rfl, _⟩; rfl) rfl rfl ⟨le_refl _, by simp [hoe], hO⟩ ?_ ?_ ?_
    · clear hO hol hoe M p c out
      rintro l pre ⟨v, x⟩ _ h2 ⟨out, p, c, M⟩ hl1 ⟨hl2, hoe, hO⟩ hp ⟨us, ws, rfl, hu1, hu2, hu3, hw1, hw2, hw3⟩
      simp only at hoe hO hu3 hw3
      obtain ⟨hvm, hxm⟩ := flightsOf_mem (hp.subset (by simp : (v, x) ∈ pre ++ [(v, x)]))
      have hsn : (pre ++ [(v, x)]).flatMap (flightIDs vs) = pre.flatMap (flightIDs vs) ++ flightIDs vs (v, x) := by simp
      have hol : out.length ≤ 2000 := by rw [hoe]; exact pre_len sm ((List.prefix_append _ _).trans hp)
      have hl6 := sm.letter v hvm x hxm
      have hp6 := sm.pmail v hvm x hxm
      have hq6 := sm.pargs v hvm x hxm
      (replace it13_2 := it13_2.up hl1; replace a1_k := a1_k.up hl1; replace ff0_1 := ff0_1.up hl1; replace hs := hs.up hl1)
      obtain ⟨hi, xa, po, qo, qs, qt, pc, qc, pn, qn, pm, qm, xw, xv, pf, qf, pr, qr, xe, xf, rfl, -⟩ := hu3
      obtain ⟨ya, yb, yc, yd, ye, pa, qa, pg, qg, ph, qh, yw, y1, y2, y3, y4, y5, y6, y7, y8, y9, y10, y11, y12, y13, y14, y15, rfl, ha, hfs, hm⟩ := hw3
      dsimp only [parFr]
      (focus (refine Wr ?_; refine S_c rfl rfl rfl (C_alloc rfl (zer rfl) ?_); intro b15_1; refine S_w0 rfl rfl (W_all rfl rfl rfl (ty rfl) u0 (by first | rfl | assumption) (by first | rfl | assumption) (by first | rfl | assumption | exact ones_sub ‹_› _ _) ?_); refine On ?_; refine R_region ?_; refine S_c rfl rfl rfl (C_alloc rfl (zer rfl) ?_); intro b15_2; refine S_w0 rfl rfl (W_all rfl rfl rfl (ty rfl) u0 (by first | rfl | assumption) (by first | rfl | assumption) (by first | rfl | assumption | exact ones_sub ‹_› _ _) ?_); refine On ?_))
      refine ⟨rfl, ?_⟩
      (focus (refine WP_keepM [] [_] _ rfl ?_; rintro h16_k l16_k k16_k; have a16_k := at_of_keep k16_k; clear k16_k; replace hO := hO.up l16_k; replace it13_2 := it13_2.up l16_k; replace a1_k := a1_k.up l16_k; replace ff0_1 := ff0_1.up l16_k; replace hs := hs.up l16_k; replace ha := ha.up l16_k; replace hfs := hfs.up l16_k; replace hm := hm.up l16_k))
      (focus (refine WP_keepM [] [_] _ rfl ?_; rintro h17_k l17_k k17_k; have a17_k := at_of_keep k17_k; clear k17_k; replace a16_k := a16_k.up l17_k; replace hO := hO.up l17_k; replace it13_2 := it13_2.up l17_k; replace a1_k := a1_k.up l17_k; replace ff0_1 := ff0_1.up l17_k; replace hs := hs.up l17_k; replace ha := ha.up l17_k; replace hfs := hfs.up l17_k; replace hm := hm.up l17_k))
      (focus (refine WP_block ?_; refine Wr ?_; refine S_q rfl rfl rfl (Q_makeFunc rfl rfl ⟨_, _, rfl, ⟨_, _, rfl, ⟨_, _, rfl, ⟨_, _, rfl, rfl, rfl⟩, rfl⟩, rfl⟩, rfl⟩) ?_; refine Sm rfl ?_; refine On ?_; refine Wr ?_; refine Sf rfl rfl rfl rfl rfl (fld rfl rfl) ?_; refine S_load rfl rfl rfl rfl rfl ?_; refine L_sub (Rd.pers ‹_›) (ty rfl) rfl ?_; refine S_c rfl rfl rfl (C_alloc rfl (zer rfl) ?_); intro b18_1; refine S_w0 rfl rfl (W_all rfl rfl rfl (ty rfl) u0 (by first | rfl | assumption) (by first | rfl | assumption) (by first | rfl | assumption | exact ones_sub ‹_› _ _) ?_); refine On ?_; refine Wr ?_; refine Sf rfl rfl rfl rfl rfl (fld rfl rfl) ?_; refine S_load rfl rfl rfl rfl rfl ?_; refine L_fld (Rd.own m0) (ty rfl) rfl ?_; refine On ?_; refine WP_block ?_; refine Wr ?_; refine Sc rfl rfl rfl rfl rfl rfl rfl ?_; refine Sm rfl ?_; refine On ?_; refine WP_cond rfl (fun c18_2 => ?_) (fun c18_2 => ?_) <;> (first | (simp [*] at c18_2; done) | (try simp at c18_2)); (focus (refine WP_seq ?_; refine R_draw (n := 12) mixed rfl ?_; refine A_at 0 rfl rfl ?_; refine A_load (m' := 1) rfl rfl rfl rfl rfl rfl (by decide +kernel) ?_; refine L_one (Rd.own m1) (ty rfl) ?_; refine A_at 1 rfl rfl ?_; refine A_load (m' := 3) rfl rfl rfl rfl rfl rfl (by decide +kernel) ?_; refine L_agg (Rd.pers ‹_›) (ty rfl) (by first | rfl | assumption) ?_; refine A_at 2 rfl rfl ?_; refine A_q (m' := 7) rfl rfl rfl (Q_fieldAddr rfl rfl (fld rfl rfl)) rfl (by decide +kernel) ?_; refine A_at 3 rfl rfl ?_; refine A_load (m' := 15) rfl rfl rfl rfl rfl rfl (by decide +kernel) ?_; refine L_fld (Rd.pers ‹_›) (ty rfl) rfl ?_; refine A_at 4 rfl rfl ?_; refine A_q (m' := 31) rfl rfl rfl (Q_fieldAddr rfl rfl (fld rfl rfl)) rfl (by decide +kernel) ?_; refine A_at 5 rfl rfl ?_; refine A_load (m' := 63) rfl rfl rfl rfl rfl rfl (by decide +kernel) ?_; refine L_fld (Rd.pers ‹_›) (ty rfl) rfl ?_; refine A_at 6 rfl rfl ?_; refine A_q (m' := 127) rfl rfl rfl (Q_fieldAddr rfl rfl (fld rfl rfl)) rfl (by decide +kernel) ?_; refine A_at 7 rfl rfl ?_; refine A_load (m' := 255) rfl rfl rfl rfl rfl rfl (by decide +kernel) ?_; refine L_fld (Rd.own m0) (ty rfl) rfl ?_; refine A_at 8 rfl rfl ?_; refine A_c (m' := 511) rfl rfl rfl rfl (by decide +kernel) (C_callv (numbered_s ‹_›) rfl rfl ⟨_, _, rfl, ⟨_, _, rfl, ⟨_, _, rfl, ⟨_, _, rfl, rfl, rfl⟩, rfl⟩, rfl⟩, rfl⟩ (cal rfl) ?_); refine A_at 9 rfl rfl ?_; refine A_c (m' := 1023) rfl rfl rfl rfl (by decide +kernel) (C_buildSlice rfl (elm rfl) (zer rfl) rfl ⟨_, _, _, rfl, rfl, rfl, rfl, rfl, rfl⟩ rfl rfl ?_); intro b18_3; refine A_at 10 rfl rfl ?_; refine A_w (m' := 2047) rfl rfl rfl rfl rfl (by decide +kernel) (W_app1 [_, _] _ ‹_› rfl rfl rfl rfl rfl rfl (elm rfl) (zer rfl) rfl rfl rfl rfl rfl (by (try simp only [lA]); omega) (by (try simp only [lA]); omega) ?_); rintro p18_4 q18_4 m18_4 o18_4; refine A_at 11 rfl rfl ?_; refine A_w0 (m' := 4095) rfl rfl rfl rfl (by decide +kernel) (W_one rfl rfl rfl (ty rfl) u1 rfl rfl rfl ?_); refine A_done (by decide +kernel) ?_; refine then_n ?_; refine R_region ?_; refine Sm rfl ?_; refine Sf rfl rfl rfl rfl rfl (fld rfl rfl) ?_; refine Sf rfl rfl rfl rfl rfl (fld rfl rfl) ?_; refine S_load rfl rfl rfl rfl rfl ?_; refine L_fld2 (Rd.own m0) ?_; refine LV_1 (ty rfl) rfl ?_)); rotate_left 1; (focus (refine Wr ?_; refine Sc rfl rfl rfl rfl rfl rfl rfl ?_; refine Sm rfl ?_; refine On ?_; refine WP_cond rfl (fun c18_5 => ?_) (fun c18_5 => ?_) <;> (first | (simp [*] at c18_5; done) | (try simp at c18_5)); (focus (refine R_region ?_; refine Sm rfl ?_; refine Sf rfl rfl rfl rfl rfl (fld rfl rfl) ?_; refine S_load rfl rfl rfl rfl rfl ?_; refine L_sub (Rd.own m0) (ty rfl) rfl ?_; refine S_c rfl rfl rfl (C_buildSlice rfl (elm rfl) (zer rfl) rfl ⟨_, _, _, rfl, rfl, rfl, rfl, rfl, rfl⟩ rfl rfl ?_); intro b18_6)); rotate_left 1; (focus (refine Wr ?_; refine Sc rfl rfl rfl rfl rfl rfl rfl ?_; refine Sm rfl ?_; refine On ?_; refine WP_cond rfl (fun c18_7 => ?_) (fun c18_7 => ?_) <;> (first | (simp [*] at c18_7; done) | (try simp at c18_7)); (focus (refine Wr ?_; refine Sf rfl rfl rfl rfl rfl (fld rfl rfl) ?_; refine Sf rfl rfl rfl rfl rfl (fld rfl rfl) ?_; refine S_load rfl rfl rfl rfl rfl ?_; refine L_fld2 (Rd.own m0) ?_; refine LV_1 (ty rfl) rfl ?_; refine S_q rfl rfl rfl (Q_len rfl rfl rfl rfl rfl rfl) ?_; refine Sm rfl ?_; refine On ?_; refine WP_block ?_)); rotate_left 1; (focus (refine WP_skip ?_; refine block_n ?_; refine block_n ?_)); rotate_left 1)); rotate_left 2)); rotate_left 3))
      · have hfi : flightIDs vs (v, x) = numberedOf vs v.machine x.to x.msg.number :: x.msg.args.map (idOf vs v.machine x.to) := by rw [flightIDs, if_pos c18_2]
        refine S_w rfl rfl rfl (W_callC (cap := [ptr b0_3 0, ptr b0_2 0, ptr b15_1 0, ptr b15_2 0]) [_] _ (rootsAdd_s (mf := v.machine) (mt := x.to) a1_k ff0_1 a17_k a16_k ha o18_4 (by simp; omega)) rfl rfl rfl ⟨_, _, rfl, rfl, rfl⟩ (cal rfl) rfl ?_)
        rintro h3 L3 _ hl3 ⟨rfl, p3, c3, M3, rfl, hO3⟩
        (focus (refine OPS_nil ?_; refine block_n ?_; refine block_n ?_))
        refine bodyS_n (_, p3, c3, M3) ⟨le_trans hl2 (le_trans l16_k l17_k), ?_, hO3⟩ (by repeat' first | exact sR _ | exact sA _ _ | exact sN _ | apply s2 | apply s1)
        simp only; rw [hsn, hfi, hoe]; simp only [List.append_assoc, List.cons_append, List.nil_append]
      · have hfi : flightIDs vs (v, x) = [idOf vs v.machine x.to x.msg.ref] := by rw [flightIDs, if_neg c18_2, if_pos c18_5]
        (focus (refine OPS_keepM [] [_] _ rfl ?_; rintro h20_k l20_k k20_k; have a20_k := at_of_keep k20_k; clear k20_k; replace a17_k := a17_k.up l20_k; replace a16_k := a16_k.up l20_k; replace hO := hO.up l20_k; replace it13_2 := it13_2.up l20_k; replace a1_k := a1_k.up l20_k; replace ff0_1 := ff0_1.up l20_k; replace hs := hs.up l20_k; replace ha := ha.up l20_k; replace hfs := hfs.up l20_k; replace hm := hm.up l20_k))
        refine S_w rfl rfl rfl (W_callC (vs := [.slice (some ⟨b18_6, 0, none⟩) 1 1]) (cap := [ptr b0_3 0, ptr b0_2 0, ptr b15_1 0, ptr b15_2 0]) [_] _ (rootsAdd_s (l := .slice (some ⟨b18_6, 0, none⟩) 1 1) (mf := v.machine) (mt := x.to) (rs := [x.msg.ref]) a1_k ff0_1 a17_k a16_k (slb_of_at a20_k (Flat.one rfl rfl rfl) (by simp)) hO (by simp; omega)) rfl rfl rfl ⟨_, _, rfl, rfl, rfl⟩ (cal rfl) rfl ?_)
        rintro h3 L3 _ hl3 ⟨rfl, p3, c3, M3, rfl, hO3⟩
        (focus (refine OPS_nil ?_; refine block_n ?_; refine block_n ?_))
        refine bodyS_n (_, p3, c3, M3) ⟨le_trans hl2 (le_trans l16_k (le_trans l17_k l20_k)), ?_, hO3⟩ (by repeat' first | exact sR _ | exact sA _ _ | exact sN _ | apply s2 | apply s1)
        simp only; rw [hsn, hfi, hoe]; simp only [List.append_assoc, List.map_cons, List.map_nil]
      · have hfi : flightIDs vs (v, x) = x.msg.parcel.mail.flatMap fun l => x.msg.parcel.id :: l.map (idOf vs v.machine x.to) := by rw [flightIDs, if_neg c18_2, if_neg c18_5, if_pos c18_7]
        (refine WP_loopM (α := Nat × List ID × Option Addr × Nat × Hp) [_]  _ [109, 108, 16, 15, 4] (fun (s : Nat × List ID × Option Addr × Nat × Hp) => x.msg.parcel.mail.length - s.1) (fun (s : Nat × List ID × Option Addr × Nat × Hp) =>  ((b0_3, cells [.slice s.2.2.1 s.2.1.length s.2.2.2.1] 31) :: s.2.2.2.2)) (fun (s : Nat × List ID × Option Addr × Nat × Hp) => [(110, .int .i64 (s.1 : Int))]) (fun hh (s : Nat × List ID × Option Addr × Nat × Hp) => hh = h17_k ∧ s.1 ≤ x.msg.parcel.mail.length ∧ s.2.1 = out ++ (x.msg.parcel.mail.take s.1).flatMap (fun l => x.msg.parcel.id :: l.map (idOf vs v.machine x.to)) ∧ OS h17_k 35 2 IDC (.slice s.2.2.1 s.2.1.length s.2.2.2.1) s.2.1 s.2.2.2.2) (0, out, p, c, M) rfl ⟨_, _, rfl, ⟨_, _, rfl, ⟨_, _, rfl, ⟨_, _, rfl, ⟨_, _, rfl, rfl, rfl⟩, rfl⟩, rfl⟩, rfl⟩, rfl⟩ (by repeat' first | exact trivial | refine ⟨rfl, ?_⟩) ?_ ?_)
        · exact ⟨rfl, Nat.zero_le _, by simp, hO⟩
        clear hO
        rintro h3 ⟨j, oo, p, c, M⟩ _ ⟨hh3, hj, hoo, hO⟩
        simp only at hj hoo hO
        dsimp only
        subst hh3
        have hool : oo.length ≤ out.length + 28 := by
          have := flatMap_le (fun l : List Ref => x.msg.parcel.id :: l.map (idOf vs v.machine x.to)) 7 (x.msg.parcel.mail.take j) (fun m hm => by
            have := hq6 m (List.mem_of_mem_take hm)
            simp; omega)
          rw [List.length_take] at this
          rw [hoo, List.length_append]; omega
        by_cases hlt2 : j < x.msg.parcel.mail.length
        · obtain ⟨lt, el⟩ := get_of hlt2
          have hlt6 := hq6 _ (List.mem_of_getElem? el)
          have hlm := flatMap_take (fun l : List Ref => x.msg.parcel.id :: l.map (idOf vs v.machine x.to)) el
          (focus (refine Wr ?_; refine Sc rfl rfl rfl rfl rfl rfl rfl ?_; refine On ?_; refine WP_seq ?_; refine WP_cond rfl (fun c23_1 => ?_) (fun c23_1 => ?_) <;> (first | (simp [*] at c23_1; done) | (try simp at c23_1)); refine WP_skip ?_; refine then_n ?_; refine WP_seq ?_; refine WP_block ?_; refine Wr ?_; refine S_q rfl rfl rfl (Q_indexS ‹_› ‹_› rfl rfl rfl (elm rfl) rfl) ?_; refine S_load rfl rfl rfl rfl rfl ?_; refine L_elA ‹_› ‹_› (ty rfl) ?_; rintro _ _ _ ⟨xa23_2, xb23_2, xm23_2, pl23_2, ql23_2, rfl, fl23_2⟩; refine S_c rfl rfl rfl (C_alloc rfl (zer rfl) ?_); intro b23_3; refine S_w0 rfl rfl (W_all rfl rfl rfl (ty rfl) u0 (by first | rfl | assumption) (by first | rfl | assumption) (by first | rfl | assumption | exact ones_sub ‹_› _ _) ?_); refine On ?_; refine Wr ?_; refine S_load rfl rfl rfl rfl rfl ?_; refine L_one (Rd.own m2) (ty rfl) ?_; refine Sf rfl rfl rfl rfl rfl (fld rfl rfl) ?_; refine Sf rfl rfl rfl rfl rfl (fld rfl rfl) ?_; refine S_load rfl rfl rfl rfl rfl ?_; refine L_fld2 (Rd.own m1) ?_; refine LV_a (ty rfl) rfl ?_; refine S_c rfl rfl rfl (C_buildSlice rfl (elm rfl) (zer rfl) rfl ⟨_, _, _, rfl, rfl, rfl, rfl, rfl, rfl⟩ rfl rfl ?_); intro b23_4; refine S_w rfl rfl rfl (W_app1 [_, _, _] _ ‹_› rfl rfl rfl rfl rfl rfl (elm rfl) (zer rfl) rfl rfl rfl rfl rfl (by (try simp only [lA]); omega) (by (try simp only [lA]); omega) ?_); rintro p23_5 q23_5 m23_5 o23_5; refine S_w0 rfl rfl (W_one rfl rfl rfl (ty rfl) u2 rfl rfl rfl ?_); refine On ?_; refine R_region ?_; refine Sm rfl ?_; refine Sf rfl rfl rfl rfl rfl (fld rfl rfl) ?_; refine S_load rfl rfl rfl rfl rfl ?_; refine L_fld (Rd.own m0) (ty rfl) rfl ?_))
          refine S_w rfl rfl rfl (W_callC (cap := [ptr b0_3 0, ptr b0_2 0, ptr b15_1 0, ptr b15_2 0]) [_, _] _ (rootsAdd_s (mf := v.machine) (mt := x.to) a1_k ff0_1 a17_k a16_k fl23_2 o23_5 (by simp; omega)) rfl rfl rfl ⟨_, _, rfl, rfl, rfl⟩ (cal rfl) rfl ?_)
          rintro h4 L4 _ hl4 ⟨rfl, p3, c3, M3, rfl, hO3⟩
          (focus (refine OPS_nil ?_; refine block_n ?_; refine then_n ?_; refine R_region ?_; refine S_q rfl rfl rfl (Q_add rfl rfl rfl (by omega)) ?_; refine Sm rfl ?_; refine OPS_nil ?_))
          refine roundF_n (j + 1, _, p3, c3, M3) (by simp only; omega) ⟨rfl, by simp only; omega, ?_, hO3⟩ (by repeat' first | exact sR _ | exact sA _ _ | exact sN _ | apply s2 | apply s1) (by repeat' first | exact trivial | refine ⟨rfl, ?_⟩)
          simp only; rw [hlm, hoo]; simp only [List.append_assoc, List.cons_append, List.nil_append]
        · have hge : j = x.msg.parcel.mail.length := by omega
          subst hge
          rw [List.take_length, ← hfi] at hoo
          (focus (refine Wr ?_; refine Sc rfl rfl rfl rfl rfl rfl rfl ?_; refine On ?_; refine WP_seq ?_; refine WP_cond rfl (fun c25_1 => ?_) (fun c25_1 => ?_) <;> (first | (simp [*] at c25_1; done) | (try simp at c25_1)); refine WP_exit ?_; refine then_e ?_; refine roundF_e ?_; refine block_e ?_; refine block_n ?_; refine block_n ?_))
          refine bodyS_n (oo, p, c, M) ⟨le_trans hl2 (le_trans l16_k l17_k), ?_, hO⟩ (by repeat' first | exact sR _ | exact sA _ _ | exact sN _ | apply s2 | apply s1)
          simp only; rw [hsn, hoo, hoe, List.append_assoc]
      · have hfi : flightIDs vs (v, x) = [] := by rw [flightIDs, if_neg c18_2, if_neg c18_5, if_neg c18_7]
        refine bodyS_n (out, p, c, M) ⟨le_trans hl2 (le_trans l16_k l17_k), ?_, hO⟩ (by repeat' first | exact sR _ | exact sA _ _ | exact sN _ | apply s2 | apply s1)
        simp only; rw [hsn, hfi, hoe, List.append_nil]
    · clear hO hol hoe M p c out
      rintro d h2 ⟨out, p, c, M⟩ hl1 ⟨hl2, hoe, hO⟩
      simp only at hoe hO
      (replace it13_2 := it13_2.up hl1; replace a1_k := a1_k.up hl1; replace ff0_1 := ff0_1.up hl1; replace hs := hs.up hl1)
      have hraw : out = rawRoots vs := by rw [rawRoots, hoe]
      have hol : out.length ≤ 2000 := by rw [hraw]; exact raw_len sm
      have hrl := roots_len sm
      (focus (refine block_n ?_; refine then_n ?_; refine Wr ?_; refine S_load rfl rfl rfl rfl rfl ?_; refine L_one (Rd.own m0) (ty rfl) ?_))
      refine OPS_keepM [_] M [dObj d] rfl fun h3 hl3 hm3 => ?_
      have hSL : SL h3 2 IDC (.slice p out.length c) out := hO.sl hl3 IDC_mono hm3 (by omega)
      clear hO
      have hsl := setL_length out
      (focus (refine S_w rfl rfl rfl (W_callF [] _ (set_s ‹_›) rfl rfl ⟨_, _, rfl, rfl, rfl⟩ (cal rfl) rfl ?_); rintro h28_1 m28_1 _ l28_1 ⟨p28_1, q28_1, rfl, o28_1⟩; replace hSL := hSL.up l28_1; refine S_q rfl rfl rfl (Q_build rfl (by decide +kernel) (zer rfl) rfl rfl) ?_; refine S_c rfl rfl rfl (C_buildSlice rfl (elm rfl) (zer rfl) rfl ⟨_, _, _, rfl, rfl, rfl, rfl, rfl, rfl⟩ rfl rfl ?_); intro b28_2))
      (focus (refine OPS_keepM [] [_] _ rfl ?_; rintro h29_k l29_k k29_k; have a29_k := at_of_keep k29_k; clear k29_k; replace o28_1 := o28_1.up l29_k; replace hSL := hSL.up l29_k))
      refine OPS_keepM [] m28_1 _ rfl fun h4 hl4 hm4 => ?_
      have hS2 : SL h4 2 IDC (.slice p28_1 (setL out).length q28_1) (setL out) := o28_1.sl hl4 IDC_mono hm4 (by omega)
      have hS3 : SL h4 2 IDC (.slice (some ⟨b28_2, 0, none⟩) 1 1) [(0, 0)] := slb_of_at (a29_k.up hl4) (Flat.one rfl rfl rfl) (by simp)
      clear hSL
      (focus (refine S_w rfl rfl rfl (W_callF [] _ (minus_s ‹_› ‹_›) rfl rfl ⟨_, _, rfl, ⟨_, _, rfl, rfl, rfl⟩, rfl⟩ (cal rfl) rfl ?_); rintro h30_1 m30_1 _ l30_1 ⟨p30_1, q30_1, rfl, o30_1⟩; replace hS2 := hS2.up l30_1; replace hS3 := hS3.up l30_1; refine Sm rfl ?_; refine On ?_; refine WP_ret ?_))
      rw [rootsR, ← hraw] at hrl
      refine nretK [] m30_1 [(b0_3, cells [Value.slice p out.length c] 31)] (by simp) (.inl rfl) rfl ⟨_, _, rfl, rfl, rfl⟩ fun h5 hl5 hm5 => ?_
      rw [rootsR, ← hraw]
      exact ⟨_, _, rfl, o30_1.sl hl5 IDC_mono hm5 (by omega)⟩
    · rintro d e h1 L1 hl1 hx _; exact hx.elim
end Go.Proofs.YtfhoecgiahpddaaGreat
/-
  RULES: cap, an append of zeros to nil (slices.Grow), slices of nil, appends to a slice that nobody owns.
-/
set_option linter.all false
namespace Go.Mesh
open Go.RowKit
set_option linter.unusedVariables false
section
variable {P : Program} {r : Option Nat} {h : Frag} {L : Hp} {fr : Fr} {o : Oper} {K : OCont}
theorem Q_cap {c : Call} {x : Operand} {t e : TypeId} {p : Option Addr} {n cap : Nat} (hop : o.op = .call c) (hc : c.callee = .builtin .cap) (ha : c.args = #[x]) (hat : c.argTypes = #[t]) (hx : ev fr x = some (.slice p n cap)) (ht : P.underlying t = some (.slice e)) : QOP P o fr h L (.int .i64 (cap : Int)) :=
  ⟨fun c => by rw [hop]; simp, fun a hal w hw => by
    unfold execOp; rw [hop]
    simp [resolve, hc, ha, hat, invoke, builtin, Builtin.cap_, hal x _ hx, run_underlying' ht, goInt]⟩
/-- nil[:0] -/
theorem Q_slice0 {t e k by_ : Nat} {s x : Operand} {q : IntKind} {i : Int} (hop : o.op = .slice t s none (some x) none) (hs : ev fr s = some (.slice none 0 0)) (he : elemOf? P t = some (e, k, by_)) (hx : ev fr x = some (.int q i)) (hi : i = 0) :
    QOP P o fr h L (.slice none 0 0) := by
  subst hi
  exact ⟨fun c => by rw [hop]; simp, fun a ha w _ => by
    obtain ⟨hu, i0, hi0, hk, _⟩ := elemOf?_spec he
    unfold execOp; rw [hop]
    simp [ha s _ hs, ha x _ hx, Instr.sliceAt, run_underlying' hu, Instr.slice, Instr.sliceBounds, Instr.sliceBound, asIntOf, sizeOf, typeInfo, hi0]⟩
/-- a call that needs nothing owned and hands out owned blocks -/
theorem C_callF {c : Call} {f : FuncId} {vs : List Value} {R : OCont} (x : FSpec P f vs.toArray h [] R) (hop : o.op = .call c) (hc : c.callee = .value (.func f)) (hvs : evs fr c.args.toList vs) (hcal : callOk P f = true) (k : ∀ h' M v, le h h' → R h' M v → K h' M v) : OPc P r o fr h L K := by
  obtain ⟨fn, hfn, hn, hb⟩ := callOk_spec hcal
  exact OPc_call (first := #[]) (cap := #[]) (R := R) hop hc rfl hvs hfn hn hb (by simpa using x) fun h' L' v hl q => k h' L' v hl q
/-- append(nil, make([]T, n)...) -/
theorem C_appZ {c : Call} {s x : Operand} {t tn e k by_ : Nat} (n : Nat) {kn : IntKind} {i : Int} {z : List Value} (hop : o.op = .call c) (hc : c.callee = .builtin .append) (ha : c.args = #[s, x]) (hat : c.argTypes = #[t, tn])
    (hs : ev fr s = some (.slice none 0 0)) (hx : ev fr x = some (.int kn i)) (hi0 : i = (n : Int)) (he : elemOf? P t = some (e, k, by_)) (hz : zeroOf P e = some z) (hzk : z.length = k) (htn : P.underlying tn = some (.int .i64)) (h0 : 0 < n) (hk0 : 0 < k) (hb : n * by_ ≤ 281474976710656) (h63 : n ≤ 9223372036854775807)
    (kk : ∀ b cap rest, n ≤ cap → rest.length = cap * k → K h [(b, cells rest e)] (.slice (some ⟨b, 0, none⟩) n cap)) : OPc P r o fr h L K := by
  subst hi0
  obtain ⟨hu, i0, hi, hk, hby⟩ := elemOf?_spec he
  obtain ⟨i, zv, hi', hz0, hzc⟩ := zeroOf_spec hz
  rw [hi] at hi'; cases hi'
  intro a hal w hw
  have hr := Go.Lib.run_append_nil_zeros (P := P) w t tn o.type e i0 zv kn .i64 hu htn hi hz0 n h0 (by omega) (by omega) (by rw [hby]; exact hb)
  have hex : (execOp a.eval o).run P w = .ok (.value (.slice (some ⟨w.heap.size, 0, none⟩) n (grownCap w n 0 e))) (w.drew.alloc (.cells (Builtin.zeroCells zv.cells n ++ Builtin.zeroCells zv.cells (grownCap w n 0 e - n)) e)) := by
    unfold execOp; rw [hop]
    simp [resolve, hc, ha, hat, invoke, builtin, hal s _ hs, hal x _ hx, hr]
  have hge := grownCap_ge w n 0 e
  refine wpIn_of_value (fun c' => by rw [hop]; simp) hex ⟨h, [(w.heap.size, cells (Builtin.zeroCells zv.cells n ++ Builtin.zeroCells zv.cells (grownCap w n 0 e - n)).toList e)], _, rfl, kk _ _ _ hge ?_, ?_⟩
  · simp [size_zeroCells, hzc, hzk, ← Nat.add_mul]; congr 1; omega
  · have hx := ext_drew_alloc hw (.cells (Builtin.zeroCells zv.cells n ++ Builtin.zeroCells zv.cells (grownCap w n 0 e - n)) e)
    have hob : (Obj.cells (Builtin.zeroCells zv.cells n ++ Builtin.zeroCells zv.cells (grownCap w n 0 e - n)) e) = cells (Builtin.zeroCells zv.cells n ++ Builtin.zeroCells zv.cells (grownCap w n 0 e - n)).toList e := by simp [cells]
    rw [hob] at hx ⊢
    exact hx
end
end Go.Mesh
/-
  CONTRACTS: observer.Reachable, observer.Garbage, observer.Home.
-/
set_option linter.all false
namespace Go.Proofs.YtfhoecgiahpddaaGreat
open Go.Mesh Go.RowKit
set_option maxRecDepth 100000
set_option linter.unusedVariables false
set_option maxHeartbeats 4000000
attribute [local irreducible] WP OPS ANY ANYo LG LV FSpec PSpec QOP OPc OPw thenQ blockQ roundQ roundF retQ retM Rd At SLB OS cmpI orI cmpID namedB valB nodeB kindB validG valAux idxI findG zeroV viewOf vwAt idxOf recv flyB scionOf moveOf numberedOf idOf valueOf mget mput localB carriedB stubOf followF followOf flOf flightsOf flPre setL minusL compactL putI mergeN insN insAll unionR NMap Coll retN bodyS GMap Dfs refsV refsOf reachL movedOf movedG graphParts graphR isMove flightIDs mailIDs viewIDs rawRoots rootsR
theorem mergeN_or {o n m : Nd} (h : mergeN o n = some m) : m = o ∨ m = n := by
  unfold mergeN at h
  grind
theorem insN_mem {l l' : List Nd} {n : Nd} (hs : SN l) (h : insN l n = some l') : SN l' ∧ l'.length ≤ l.length + 1 ∧ ∀ z, z ∈ l' → z = n ∨ z ∈ l := by
  have k := insN_spec (n := n) hs
  cases hf : findG l n.id with
  | none =>
    rw [hf] at k
    obtain ⟨l2, e1, e2, e3, e4, _⟩ := k
    rw [h] at e1; cases e1
    exact ⟨e2, by omega, e4⟩
  | some o =>
    rw [hf] at k
    cases hm : mergeN o n with
    | none => simp only [hm] at k; rw [h] at k; cases k
    | some m =>
      simp only [hm] at k
      obtain ⟨l2, e1, e2, e3, e4, _⟩ := k
      rw [h] at e1; cases e1
      refine ⟨e2, by omega, fun z hz => ?_⟩
      rcases e4 z hz with rfl | hz
      · rcases mergeN_or hm with rfl | rfl
        · exact .inr (findG_some hf).1
        · exact .inl rfl
      · exact .inr hz
theorem insAll_mem : ∀ {r acc l' : List Nd}, SN acc → insAll acc r = some l' → SN l' ∧ l'.length ≤ acc.length + r.length ∧ ∀ z, z ∈ l' → z ∈ acc ∨ z ∈ r
  | [], acc, l', hs, h => by
    unfold insAll at h
    cases h
    exact ⟨hs, by simp, fun z hz => .inl hz⟩
  | n :: r, acc, l', hs, h => by
    unfold insAll at h
    cases hi : insN acc n with
    | none => rw [hi] at h; cases h
    | some a =>
      rw [hi] at h
      obtain ⟨h1, h2, h3⟩ := insN_mem hs hi
      obtain ⟨k1, k2, k3⟩ := insAll_mem h1 h
      refine ⟨k1, by simp only [List.length_cons]; omega, fun z hz => ?_⟩
      rcases k3 z hz with hz | hz
      · rcases h3 z hz with rfl | hz
        · exact .inr (by simp)
        · exact .inl hz
      · exact .inr (by simp [hz])
theorem unionR_mem (l : List (List Nd)) : SN (unionR l).1 ∧ (unionR l).1.length ≤ l.flatten.length ∧ ∀ z, z ∈ (unionR l).1 → z ∈ l.flatten := by
  unfold unionR
  split
  · cases hi : insAll [] l.flatten with
    | none => exact ⟨by simp [resU, SN], by simp [resU], by simp [resU]⟩
    | some a =>
      obtain ⟨k1, k2, k3⟩ := insAll_mem List.Pairwise.nil hi
      refine ⟨k1, by simpa [resU] using k2, fun z hz => ?_⟩
      rcases k3 z hz with h | h
      · simp at h
      · exact h
  · exact ⟨by simp [SN], by simp, by simp⟩
theorem Small.graph {vs : List View} (s : Small vs) : SN (graphR vs).1 ∧ (graphR vs).1.length ≤ 1000000 ∧ ∀ n, n ∈ (graphR vs).1 → n.fields.length ≤ 1000 := by
  obtain ⟨h1, h2, h3⟩ := unionR_mem (graphParts vs)
  rw [graphR]
  refine ⟨h1, Nat.le_trans h2 s.parts, fun n hn => ?_⟩
  have := h3 n hn
  rw [graphParts, List.flatten_append, List.mem_append] at this
  rcases this with h | h
  · simp only [List.mem_flatten, List.mem_map] at h
    obtain ⟨_, ⟨v, hv, rfl⟩, hn⟩ := h
    have := s.fields v hv n hn; omega
  · simp only [movedG, List.mem_flatten, List.mem_map, List.mem_filter] at h
    obtain ⟨_, ⟨i, ⟨hi, _⟩, rfl⟩, hn⟩ := h
    obtain ⟨hv, hx⟩ := flightsOf_mem hi
    have := s.moved _ hv _ hx
    simp only [List.mem_singleton] at hn
    subst hn
    simp only [movedOf, List.length_map]; omega
/-- what the fleet reaches -/
noncomputable def reachR (vs : List View) : List ID := if (graphR vs).2 = 0 then reachL (graphR vs).1 (rootsR vs) else []
theorem Small.reach {vs : List View} (s : Small vs) : (reachR vs).length ≤ 1000000 := by
  unfold reachR
  split
  · exact Nat.le_trans (reachL_length _ _) s.graph.2.1
  · simp
attribute [local irreducible] reachR
theorem reachable_s {h : Frag} {a : Value} {vs : List View} (hs : SL h 13 (ViewC 4398046511104) a vs) (sm : Small vs) : PSpec Tryz.prog 12 #[a] h (fun h' v => ∃ p c, v = .slice p (reachR vs).length c ∧ SL h' 2 IDC (.slice p (reachR vs).length c) (reachR vs)) := by
  obtain ⟨_, hgl, hgf⟩ := sm.graph
  have hrl := roots_len sm
  have hrr := sm.reach
  refine pspec_of (vs := [a]) Tryz.func12 Tryz.ntmps12 rfl rfl ?_
  (focus (refine Wr ?_; refine Sm rfl ?_; refine On ?_; refine Wr ?_; refine Sm rfl ?_; refine S_c rfl rfl rfl (C_call (graph_s ‹_› ‹_›) rfl rfl ⟨_, _, rfl, rfl, rfl⟩ (cal rfl) ?_); rintro h0_1 _ l0_1 ⟨_, rfl, pg0_1, qg0_1, rfl, fg0_1⟩; replace hs := hs.up l0_1; refine Sm rfl ?_; refine S_q rfl rfl rfl (Q_extract rfl rfl rfl) ?_; refine S_q rfl rfl rfl (Q_extract rfl rfl rfl) ?_; refine S_c rfl rfl rfl (C_alloc rfl (zer rfl) ?_); intro b0_2; refine S_w0 rfl rfl (W_all rfl rfl rfl (ty rfl) u0 (by first | rfl | assumption) (by first | rfl | assumption) (by first | rfl | assumption | exact ones_sub ‹_› _ _) ?_); refine Sm rfl ?_; refine On ?_; refine WP_seq ?_; refine Wr ?_; refine Sm rfl ?_; refine Sc rfl rfl rfl rfl rfl rfl rfl ?_; refine On ?_; refine WP_cond rfl (fun c0_3 => ?_) (fun c0_3 => ?_) <;> (first | (simp [*] at c0_3; done) | (try simp at c0_3)); (focus (refine Wr ?_; refine Sm rfl ?_; refine On ?_; refine WP_ret ?_; refine then_r ?_)); rotate_left 1; (focus (refine WP_skip ?_; refine then_n ?_; refine WP_seq ?_; refine R_draw (n := 5) mixed rfl ?_; refine A_at 0 rfl rfl ?_; refine A_load (m' := 1) rfl rfl rfl rfl rfl rfl (by decide +kernel) ?_; refine L_agg (Rd.own m0) (ty rfl) (by first | rfl | assumption) ?_; refine A_at 1 rfl rfl ?_; refine A_q (m' := 3) rfl rfl rfl (Q_move rfl rfl) rfl (by decide +kernel) ?_; refine A_at 2 rfl rfl ?_; refine A_c (m' := 7) rfl rfl rfl rfl (by decide +kernel) (C_call (roots_s ‹_› ‹_›) rfl rfl ⟨_, _, rfl, rfl, rfl⟩ (cal rfl) ?_); rintro h0_4 _ l0_4 ⟨p0_4, q0_4, rfl, f0_4⟩; replace fg0_1 := fg0_1.up l0_4; replace hs := hs.up l0_4; refine A_at 3 rfl rfl ?_; refine A_c (m' := 15) rfl rfl rfl rfl (by decide +kernel) (C_callF (reach_s ⟨_, _, rfl, by assumption⟩ ‹_› (by omega) (by omega) ‹_›) rfl rfl ⟨_, _, rfl, ⟨_, _, rfl, rfl, rfl⟩, rfl⟩ (cal rfl) ?_); rintro h0_5 m0_5 _ l0_5 ⟨p0_5, q0_5, rfl, o0_5⟩; replace f0_4 := f0_4.up l0_5; replace fg0_1 := fg0_1.up l0_5; replace hs := hs.up l0_5; refine A_at 4 rfl rfl ?_; refine A_q (m' := 31) rfl rfl rfl (Q_assign rfl rfl) rfl (by decide +kernel) ?_; refine A_done (by decide +kernel) ?_; refine then_n ?_; refine WP_ret ?_)); rotate_left 1))
  · refine pret (.inl rfl) rfl ⟨_, _, rfl, rfl, rfl⟩ ?_
    rw [reachR, if_neg c0_3]
    exact ⟨_, _, rfl, SLB.nil _ _ _ _ _ _⟩
  · have hre : reachR vs = reachL (graphR vs).1 (rootsR vs) := by rw [reachR, if_pos c0_3]
    rw [hre] at hrr ⊢
    refine pretKM [] m0_5 _ rfl (.inl rfl) rfl ⟨_, _, rfl, rfl, rfl⟩ fun h' hl' hm => ?_
    exact ⟨_, _, rfl, o0_5.sl hl' IDC_mono hm (by omega)⟩
/-- how many are not reached -/
noncomputable def deadN (live : List ID) (l : List ID) : Nat := (l.filter fun x => !decide (x ∈ live)).length
def objsL (l : List Nd) : List ID := (l.filter fun n => decide (n.kind ≠ 3)).map (·.id)
def viewObjs (v : View) : List ID := objsL v.objects
noncomputable def garbageOf (live : List ID) (v : View) : Nat := deadN live (viewObjs v) + deadN live (v.stubs.map (·.id)) + deadN live (v.scions.map (·.id))
noncomputable def garbageR (vs : List View) : Nat := (vs.map (garbageOf (reachR vs))).sum
theorem deadN_nil (live : List ID) : deadN live [] = 0 := rfl
theorem deadN_snoc (live l : List ID) (x : ID) : deadN live (l ++ [x]) = deadN live l + (if x ∈ live then 0 else 1) := by
  rw [deadN, deadN, List.filter_append, List.length_append]
  by_cases h : x ∈ live <;> simp [h]
theorem deadN_le (live l : List ID) : deadN live l ≤ l.length := by rw [deadN]; exact List.length_filter_le _ _
theorem viewObjs_le (v : View) : (viewObjs v).length ≤ v.objects.length := by rw [viewObjs, objsL, List.length_map]; exact List.length_filter_le _ _
theorem garbageOf_le {vs : List View} (s : Small vs) (live : List ID) {v : View} (hv : v ∈ vs) : garbageOf live v ≤ 36 := by
  have h1 := deadN_le live (viewObjs v)
  have h2 := deadN_le live (v.stubs.map (·.id))
  have h3 := deadN_le live (v.scions.map (·.id))
  have h4 := viewObjs_le v
  have h5 := s.objs v hv
  have h6 := s.stubs v hv
  have h7 := s.scions v hv
  rw [List.length_map] at h2 h3
  rw [garbageOf]; omega
theorem sum_le (f : View → Nat) (k : Nat) : ∀ l : List View, (∀ v, v ∈ l → f v ≤ k) → (l.map f).sum ≤ l.length * k
  | [], _ => by simp
  | v :: l, h => by
    have h1 := h v (by simp)
    have h2 := sum_le f k l fun w hw => h w (by simp [hw])
    simp only [List.map_cons, List.sum_cons, List.length_cons, Nat.add_mul, Nat.one_mul]; omega
theorem sum_take (f : View → Nat) {l : List View} {k : Nat} {v : View} (hv : l[k]? = some v) : ((l.take (k + 1)).map f).sum = ((l.take k).map f).sum + f v := by
  rw [List.take_add_one, hv]; simp
theorem objsL_take {l : List Nd} {j : Nat} {n : Nd} (hn : l[j]? = some n) : objsL (l.take (j + 1)) = objsL (l.take j) ++ (if n.kind = 3 then [] else [n.id]) := by
  rw [objsL, objsL, List.take_add_one, hn]
  by_cases h : n.kind = 3 <;> simp [h]
theorem mapid_take {α : Type} (f : α → ID) {l : List α} {j : Nat} {n : α} (hn : l[j]? = some n) : (l.take (j + 1)).map f = (l.take j).map f ++ [f n] := by
  rw [List.take_add_one, hn]; simp
theorem deadN_take_le (live l : List ID) (k : Nat) (h : l.length ≤ k) : deadN live l ≤ k := Nat.le_trans (deadN_le live l) h
theorem objsL_le (l : List Nd) : (objsL l).length ≤ l.length := by rw [objsL, List.length_map]; exact List.length_filter_le _ _
theorem viewObjs_def (v : View) : viewObjs v = objsL v.objects := rfl
theorem garbageOf_def (live : List ID) (v : View) : garbageOf live v = deadN live (viewObjs v) + deadN live (v.stubs.map (·.id)) + deadN live (v.scions.map (·.id)) := rfl
theorem objsL_nil : objsL [] = [] := rfl
attribute [local irreducible] deadN viewObjs garbageOf garbageR objsL
theorem garbage1_s {h : Frag} {a : Value} {live : List ID} {x : ID} {b3 b4 n : Nat} (h3 : At h b3 0 [a]) (hl : SL h 2 IDC a live) (hn : n ≤ 1000000) : FSpec Tryz.prog 70 #[.agg (idc x).toArray, ptr b3 0, ptr b4 0] h [(b4, cells [.int .i64 (n : Int)] 3)]
    (fun h' L' _ => h' = h ∧ L' = [(b4, cells [.int .i64 ((n + (if x ∈ live then 0 else 1) : Nat) : Int)] 3)]) := by
  obtain ⟨x1, x2⟩ := x
  refine spec_of (vs := [.agg (idc (x1, x2)).toArray, ptr b3 0, ptr b4 0]) Tryz.func70 Tryz.ntmps70 rfl rfl rfl ?_
  (focus (refine Wr ?_; refine S_c rfl rfl rfl (C_box rfl rfl ?_); intro b0_1; refine On ?_; refine Wr ?_; refine S_load rfl rfl rfl rfl rfl ?_; refine L_one (Rd.pers ‹_›) (ty rfl) ?_; refine S_load rfl rfl rfl rfl rfl ?_; refine L_agg (Rd.own m0) (ty rfl) (by first | rfl | assumption) ?_; refine S_c rfl rfl rfl (C_callv (has_s (x := (_, _)) ‹_›) rfl rfl ⟨_, _, rfl, ⟨_, _, rfl, rfl, rfl⟩, rfl⟩ (cal rfl) ?_); refine S_q rfl rfl rfl (Q_not rfl rfl) ?_; refine On ?_; refine WP_cond rfl (fun c0_2 => ?_) (fun c0_2 => ?_) <;> (first | (simp [*] at c0_2; done) | (try simp at c0_2)); (focus (refine R_region ?_; refine S_load rfl rfl rfl rfl rfl ?_; refine L_one (Rd.own m1) (ty rfl) ?_; refine S_q rfl rfl rfl (Q_add rfl rfl rfl (by omega)) ?_; refine S_w0 rfl rfl (W_one rfl rfl rfl (ty rfl) u1 rfl rfl rfl ?_); refine OPS_nil ?_)); rotate_left 1; (focus (refine WP_skip ?_)); rotate_left 1))
  · refine ret_q [(b4, cells [.int .i64 ((n : Int) + 1)] 3)] (.inr rfl) rfl rfl (by repeat' first | exact sR _ | exact sA _ _ | exact sN _ | apply s2 | apply s1) ⟨rfl, ?_⟩
    rw [if_neg c0_2]; simp
  · refine ret_q [(b4, cells [.int .i64 (n : Int)] 3)] (.inr rfl) rfl rfl (by repeat' first | exact sR _ | exact sA _ _ | exact sN _ | apply s2 | apply s1) ⟨rfl, ?_⟩
    rw [if_pos c0_2]; simp
theorem garbage_s {h : Frag} {a : Value} {vs : List View} (hs : SL h 13 (ViewC 4398046511104) a vs) (sm : Small vs) : PSpec Tryz.prog 27 #[a] h (fun _ v => v = .int .i64 ((garbageR vs : Nat) : Int)) := by
  have hlen := sm.len
  obtain ⟨pv, cv, rfl⟩ := hs.slice
  refine pspec_of (vs := [.slice pv vs.length cv]) Tryz.func27 Tryz.ntmps27 rfl rfl ?_
  (focus (refine Wr ?_; refine Sm rfl ?_; refine On ?_; refine Wr ?_; refine Sm rfl ?_; refine S_c rfl rfl rfl (C_call (reachable_s ‹_› ‹_›) rfl rfl ⟨_, _, rfl, rfl, rfl⟩ (cal rfl) ?_); rintro h0_1 _ l0_1 ⟨p0_1, q0_1, rfl, f0_1⟩; replace hs := hs.up l0_1; refine S_c rfl rfl rfl (C_alloc rfl (zer rfl) ?_); intro b0_2; refine S_w0 rfl rfl (W_one rfl rfl rfl (ty rfl) u0 rfl rfl rfl ?_); refine On ?_; refine Wr ?_; refine S_c rfl rfl rfl (C_alloc rfl (zer rfl) ?_); intro b0_3; refine S_w0 rfl rfl (W_one rfl rfl rfl (ty rfl) u0 rfl rfl rfl ?_); refine On ?_; refine Wr ?_; refine S_q rfl rfl rfl (Q_makeFunc rfl rfl ⟨_, _, rfl, ⟨_, _, rfl, rfl, rfl⟩, rfl⟩) ?_; refine Sm rfl ?_; refine On ?_; refine WP_seq ?_; refine Wr ?_; refine Sm rfl ?_; refine S_q rfl rfl rfl (Q_len rfl rfl rfl rfl rfl rfl) ?_; refine Sm rfl ?_; refine On ?_; refine WP_block ?_))
  (focus (refine WP_keepM [_] [_] _ rfl ?_; rintro h1_k l1_k k1_k; have a1_k := at_of_keep k1_k; clear k1_k; replace f0_1 := f0_1.up l1_k; replace hs := hs.up l1_k))
  (refine WP_loopF (α := Nat × Nat) [18, 17, 5, 4] (fun (s : Nat × Nat) => vs.length - s.1) (fun (s : Nat × Nat) => [(b0_3, cells [.int .i64 (s.2 : Int)] 3)]) (fun (s : Nat × Nat) => [(19, .int .i64 (s.1 : Int))]) (fun hh (s : Nat × Nat) => hh = h1_k ∧ s.1 ≤ vs.length ∧ s.2 = ((vs.take s.1).map (garbageOf (reachR vs))).sum) (0, 0) ⟨_, _, rfl, ⟨_, _, rfl, ⟨_, _, rfl, ⟨_, _, rfl, rfl, rfl⟩, rfl⟩, rfl⟩, rfl⟩ ?_ (by repeat' first | exact sR _ | exact sA _ _ | exact sN _ | apply s2 | apply s1) (by repeat' first | exact trivial | refine ⟨rfl, ?_⟩) ?_)
  · exact ⟨rfl, Nat.zero_le _, rfl⟩
  rintro h1 ⟨k, n⟩ _ ⟨rfl, hk, hn⟩
  simp only at hk hn
  dsimp only
  have hnl : n ≤ 200 := by
    have := sum_le (garbageOf (reachR vs)) 36 (vs.take k) fun v hv => garbageOf_le sm _ (List.mem_of_mem_take hv)
    rw [List.length_take] at this
    rw [hn]; omega
  by_cases hlt : k < vs.length
  · obtain ⟨v, ev⟩ := get_of hlt
    have hvm : v ∈ vs := List.mem_of_getElem? ev
    have ho := sm.objs v hvm
    have hst := sm.stubs v hvm
    have hsc := sm.scions v hvm
    have hsum := sum_take (garbageOf (reachR vs)) ev
    (focus (refine Wr ?_; refine Sc rfl rfl rfl rfl rfl rfl rfl ?_; refine On ?_; refine WP_seq ?_; refine WP_cond rfl (fun c3_1 => ?_) (fun c3_1 => ?_) <;> (first | (simp [*] at c3_1; done) | (try simp at c3_1)); refine WP_skip ?_; refine then_n ?_; refine WP_seq ?_; refine WP_block ?_; refine Wr ?_; refine S_q rfl rfl rfl (Q_indexS ‹_› ‹_› rfl rfl rfl (elm rfl) rfl) ?_; refine S_load rfl rfl rfl rfl rfl ?_; refine L_elA ‹_› ‹_› (ty rfl) ?_; rintro _ _ _ ⟨xi3_2, xa3_2, po3_2, qo3_2, ps3_2, qs3_2, pc3_2, qc3_2, pn3_2, qn3_2, pm3_2, qm3_2, xw3_2, xv3_2, pf3_2, qf3_2, pr3_2, qr3_2, xe3_2, xf3_2, rfl, vo3_2, vs3_2, vc3_2, vn3_2, vm3_2, vf3_2, vr3_2⟩; refine S_c rfl rfl rfl (C_alloc rfl (zer rfl) ?_); intro b3_3; refine S_w0 rfl rfl (W_all rfl rfl rfl (ty rfl) u0 (by first | rfl | assumption) (by first | rfl | assumption) (by first | rfl | assumption | exact ones_sub ‹_› _ _) ?_); refine On ?_; refine WP_seq ?_; refine Wr ?_; refine Sf rfl rfl rfl rfl rfl (fld rfl rfl) ?_; refine Sf rfl rfl rfl rfl rfl (fld rfl rfl) ?_; refine S_load rfl rfl rfl rfl rfl ?_; refine L_fld2 (Rd.own m0) ?_; refine LV_1 (ty rfl) rfl ?_; refine S_q rfl rfl rfl (Q_len rfl rfl rfl rfl rfl rfl) ?_; refine Sm rfl ?_; refine On ?_; refine WP_block ?_))
    (refine WP_loopM (α := Nat × Nat) [_]  _ [26, 25, 7, 19, 18, 17, 5, 4] (fun (s : Nat × Nat) => v.objects.length - s.1) (fun (s : Nat × Nat) =>  [(b0_3, cells [.int .i64 (s.2 : Int)] 3)]) (fun (s : Nat × Nat) => [(27, .int .i64 (s.1 : Int))]) (fun hh (s : Nat × Nat) => hh = h1 ∧ s.1 ≤ v.objects.length ∧ s.2 = n + deadN (reachR vs) (objsL (v.objects.take s.1))) (0, n) rfl ⟨_, _, rfl, ⟨_, _, rfl, ⟨_, _, rfl, ⟨_, _, rfl, ⟨_, _, rfl, ⟨_, _, rfl, ⟨_, _, rfl, ⟨_, _, rfl, rfl, rfl⟩, rfl⟩, rfl⟩, rfl⟩, rfl⟩, rfl⟩, rfl⟩, rfl⟩ (by repeat' first | exact trivial | refine ⟨rfl, ?_⟩) ?_ ?_)
    · exact ⟨rfl, Nat.zero_le _, by simp [objsL_nil, deadN_nil]⟩
    rintro h2 ⟨j, n2⟩ _ ⟨rfl, hj, hn2⟩
    simp only at hj hn2
    dsimp only
    have hb2 := deadN_take_le (reachR vs) (objsL (v.objects.take j)) 12 (Nat.le_trans (objsL_le _) (by rw [List.length_take]; omega))
    by_cases hlt2 : j < v.objects.length
    · obtain ⟨x, ex⟩ := get_of hlt2
      have htk := objsL_take ex
      (focus (refine Wr ?_; refine Sc rfl rfl rfl rfl rfl rfl rfl ?_; refine On ?_; refine WP_seq ?_; refine WP_cond rfl (fun c5_1 => ?_) (fun c5_1 => ?_) <;> (first | (simp [*] at c5_1; done) | (try simp at c5_1)); refine WP_skip ?_; refine then_n ?_; refine WP_seq ?_; refine WP_block ?_; refine Wr ?_; refine S_q rfl rfl rfl (Q_indexS ‹_› ‹_› rfl rfl rfl (elm rfl) rfl) ?_; refine S_load rfl rfl rfl rfl rfl ?_; refine L_elA ‹_› ‹_› (ty rfl) ?_; rintro _ _ _ ⟨pn5_2, qn5_2, rfl, fn5_2⟩; refine S_c rfl rfl rfl (C_alloc rfl (zer rfl) ?_); intro b5_3; refine S_w0 rfl rfl (W_all rfl rfl rfl (ty rfl) u0 (by first | rfl | assumption) (by first | rfl | assumption) (by first | rfl | assumption | exact ones_sub ‹_› _ _) ?_); refine On ?_; refine Wr ?_; refine Sf rfl rfl rfl rfl rfl (fld rfl rfl) ?_; refine S_load rfl rfl rfl rfl rfl ?_; refine L_fld (Rd.own m0) (ty rfl) rfl ?_; refine Sc rfl rfl rfl rfl rfl rfl rfl ?_; refine On ?_; refine WP_cond rfl (fun c5_4 => ?_) (fun c5_4 => ?_) <;> (first | (simp [*] at c5_4; done) | (try simp at c5_4)); (focus (refine R_region ?_; refine Sm rfl ?_; refine Sf rfl rfl rfl rfl rfl (fld rfl rfl) ?_; refine S_load rfl rfl rfl rfl rfl ?_; refine L_sub (Rd.own m0) (ty rfl) rfl ?_)); rotate_left 1; (focus (refine WP_skip ?_; refine block_n ?_; refine then_n ?_; refine R_region ?_; refine S_q rfl rfl rfl (Q_add rfl rfl rfl (by omega)) ?_; refine Sm rfl ?_; refine OPS_nil ?_)); rotate_left 1))
      · refine S_w rfl rfl rfl (W_callC (vs := [.agg (idc x.id).toArray]) (cap := [ptr b0_2 0, ptr b0_3 0]) [_, _] _ (garbage1_s a1_k f0_1 (by omega)) rfl rfl rfl ⟨_, _, rfl, rfl, rfl⟩ (cal rfl) rfl ?_)
        rintro hq Lq _ hlq ⟨rfl, rfl⟩
        (focus (refine OPS_nil ?_; refine block_n ?_; refine then_n ?_; refine R_region ?_; refine S_q rfl rfl rfl (Q_add rfl rfl rfl (by omega)) ?_; refine Sm rfl ?_; refine OPS_nil ?_))
        refine roundF_n (j + 1, _) (by simp only; omega) ⟨rfl, by simp only; omega, ?_⟩ (by repeat' first | exact sR _ | exact sA _ _ | exact sN _ | apply s2 | apply s1) (by repeat' first | exact trivial | refine ⟨rfl, ?_⟩)
        simp only; rw [htk, if_neg c5_4, deadN_snoc, hn2]; omega
      · refine roundF_n (j + 1, n2) (by simp only; omega) ⟨rfl, by simp only; omega, ?_⟩ (by repeat' first | exact sR _ | exact sA _ _ | exact sN _ | apply s2 | apply s1) (by repeat' first | exact trivial | refine ⟨rfl, ?_⟩)
        simp only; rw [htk, if_pos c5_4, List.append_nil, hn2]
    have hge : j = v.objects.length := by omega
    subst hge
    rw [List.take_length, ← viewObjs_def] at hn2
    rw [List.take_length, ← viewObjs_def] at hb2
    (focus (refine Wr ?_; refine Sc rfl rfl rfl rfl rfl rfl rfl ?_; refine On ?_; refine WP_seq ?_; refine WP_cond rfl (fun c7_1 => ?_) (fun c7_1 => ?_) <;> (first | (simp [*] at c7_1; done) | (try simp at c7_1)); refine WP_exit ?_; refine then_e ?_; refine roundF_e ?_; refine block_e ?_; refine then_n ?_; refine WP_seq ?_; refine Wr ?_; refine Sf rfl rfl rfl rfl rfl (fld rfl rfl) ?_; refine S_load rfl rfl rfl rfl rfl ?_; refine L_fld (Rd.own m0) (ty rfl) rfl ?_; refine S_q rfl rfl rfl (Q_len rfl rfl rfl rfl rfl rfl) ?_; refine Sm rfl ?_; refine On ?_; refine WP_block ?_))
    (refine WP_loopM (α := Nat × Nat) [_]  _ [41, 40, 7, 19, 18, 17, 5, 4] (fun (s : Nat × Nat) => v.stubs.length - s.1) (fun (s : Nat × Nat) =>  [(b0_3, cells [.int .i64 (s.2 : Int)] 3)]) (fun (s : Nat × Nat) => [(42, .int .i64 (s.1 : Int))]) (fun hh (s : Nat × Nat) => hh = h2 ∧ s.1 ≤ v.stubs.length ∧ s.2 = n2 + deadN (reachR vs) ((v.stubs.take s.1).map (·.id))) (0, n2) rfl ⟨_, _, rfl, ⟨_, _, rfl, ⟨_, _, rfl, ⟨_, _, rfl, ⟨_, _, rfl, ⟨_, _, rfl, ⟨_, _, rfl, ⟨_, _, rfl, rfl, rfl⟩, rfl⟩, rfl⟩, rfl⟩, rfl⟩, rfl⟩, rfl⟩, rfl⟩ (by repeat' first | exact trivial | refine ⟨rfl, ?_⟩) ?_ ?_)
    · exact ⟨rfl, Nat.zero_le _, by simp [deadN_nil]⟩
    rintro h3 ⟨j, n3⟩ _ ⟨rfl, hj, hn3⟩
    simp only at hj hn3
    dsimp only
    have hb3 := deadN_take_le (reachR vs) ((v.stubs.take j).map (·.id)) 12 (by rw [List.length_map, List.length_take]; omega)
    by_cases hlt3 : j < v.stubs.length
    · obtain ⟨x, ex⟩ := get_of hlt3
      have htk := mapid_take (·.id) ex
      (focus (refine Wr ?_; refine Sc rfl rfl rfl rfl rfl rfl rfl ?_; refine On ?_; refine WP_seq ?_; refine WP_cond rfl (fun c9_1 => ?_) (fun c9_1 => ?_) <;> (first | (simp [*] at c9_1; done) | (try simp at c9_1)); refine WP_skip ?_; refine then_n ?_; refine WP_seq ?_; refine WP_block ?_; refine Wr ?_; refine S_q rfl rfl rfl (Q_indexS ‹_› ‹_› rfl rfl rfl (elm rfl) rfl) ?_; refine S_load rfl rfl rfl rfl rfl ?_; refine L_elA ‹_› ‹_› (ty rfl) ?_; rintro _ _ _ ⟨xa9_2, xb9_2, xc9_2, xd9_2, xe9_2, xf9_2, rfl⟩; refine S_c rfl rfl rfl (C_alloc rfl (zer rfl) ?_); intro b9_3; refine S_w0 rfl rfl (W_all rfl rfl rfl (ty rfl) u0 (by first | rfl | assumption) (by first | rfl | assumption) (by first | rfl | assumption | exact ones_sub ‹_› _ _) ?_); refine On ?_; refine R_region ?_; refine Sm rfl ?_; refine Sf rfl rfl rfl rfl rfl (fld rfl rfl) ?_; refine S_load rfl rfl rfl rfl rfl ?_; refine L_sub (Rd.own m0) (ty rfl) rfl ?_))
      refine S_w rfl rfl rfl (W_callC (vs := [.agg (idc x.id).toArray]) (cap := [ptr b0_2 0, ptr b0_3 0]) [_, _] _ (garbage1_s a1_k f0_1 (by omega)) rfl rfl rfl ⟨_, _, rfl, rfl, rfl⟩ (cal rfl) rfl ?_)
      rintro hq Lq _ hlq ⟨rfl, rfl⟩
      (focus (refine OPS_nil ?_; refine block_n ?_; refine then_n ?_; refine R_region ?_; refine S_q rfl rfl rfl (Q_add rfl rfl rfl (by omega)) ?_; refine Sm rfl ?_; refine OPS_nil ?_))
      refine roundF_n (j + 1, _) (by simp only; omega) ⟨rfl, by simp only; omega, ?_⟩ (by repeat' first | exact sR _ | exact sA _ _ | exact sN _ | apply s2 | apply s1) (by repeat' first | exact trivial | refine ⟨rfl, ?_⟩)
      simp only; rw [htk, deadN_snoc, hn3]; omega
    have hge : j = v.stubs.length := by omega
    subst hge
    rw [List.take_length] at hn3 hb3
    (focus (refine Wr ?_; refine Sc rfl rfl rfl rfl rfl rfl rfl ?_; refine On ?_; refine WP_seq ?_; refine WP_cond rfl (fun c11_1 => ?_) (fun c11_1 => ?_) <;> (first | (simp [*] at c11_1; done) | (try simp at c11_1)); refine WP_exit ?_; refine then_e ?_; refine roundF_e ?_; refine block_e ?_; refine then_n ?_; refine Wr ?_; refine Sf rfl rfl rfl rfl rfl (fld rfl rfl) ?_; refine S_load rfl rfl rfl rfl rfl ?_; refine L_fld (Rd.own m0) (ty rfl) rfl ?_; refine S_q rfl rfl rfl (Q_len rfl rfl rfl rfl rfl rfl) ?_; refine Sm rfl ?_; refine On ?_; refine WP_block ?_))
    (refine WP_loopM (α := Nat × Nat) [_]  _ [53, 52, 19, 18, 17, 5, 4] (fun (s : Nat × Nat) => v.scions.length - s.1) (fun (s : Nat × Nat) =>  [(b0_3, cells [.int .i64 (s.2 : Int)] 3)]) (fun (s : Nat × Nat) => [(54, .int .i64 (s.1 : Int))]) (fun hh (s : Nat × Nat) => hh = h3 ∧ s.1 ≤ v.scions.length ∧ s.2 = n3 + deadN (reachR vs) ((v.scions.take s.1).map (·.id))) (0, n3) rfl ⟨_, _, rfl, ⟨_, _, rfl, ⟨_, _, rfl, ⟨_, _, rfl, ⟨_, _, rfl, ⟨_, _, rfl, ⟨_, _, rfl, rfl, rfl⟩, rfl⟩, rfl⟩, rfl⟩, rfl⟩, rfl⟩, rfl⟩ (by repeat' first | exact trivial | refine ⟨rfl, ?_⟩) ?_ ?_)
    · exact ⟨rfl, Nat.zero_le _, by simp [deadN_nil]⟩
    rintro h4 ⟨j, n4⟩ _ ⟨rfl, hj, hn4⟩
    simp only at hj hn4
    dsimp only
    have hb4 := deadN_take_le (reachR vs) ((v.scions.take j).map (·.id)) 12 (by rw [List.length_map, List.length_take]; omega)
    by_cases hlt4 : j < v.scions.length
    · obtain ⟨x, ex⟩ := get_of hlt4
      have htk := mapid_take (·.id) ex
      (focus (refine Wr ?_; refine Sc rfl rfl rfl rfl rfl rfl rfl ?_; refine On ?_; refine WP_seq ?_; refine WP_cond rfl (fun c13_1 => ?_) (fun c13_1 => ?_) <;> (first | (simp [*] at c13_1; done) | (try simp at c13_1)); refine WP_skip ?_; refine then_n ?_; refine WP_seq ?_; refine WP_block ?_; refine Wr ?_; refine S_q rfl rfl rfl (Q_indexS ‹_› ‹_› rfl rfl rfl (elm rfl) rfl) ?_; refine S_load rfl rfl rfl rfl rfl ?_; refine L_elA ‹_› ‹_› (ty rfl) ?_; rintro _ _ _ ⟨xa13_2, xb13_2, xc13_2, xd13_2, xe13_2, xf13_2, xg13_2, xh13_2, rfl⟩; refine S_c rfl rfl rfl (C_alloc rfl (zer rfl) ?_); intro b13_3; refine S_w0 rfl rfl (W_all rfl rfl rfl (ty rfl) u0 (by first | rfl | assumption) (by first | rfl | assumption) (by first | rfl | assumption | exact ones_sub ‹_› _ _) ?_); refine On ?_; refine R_region ?_; refine Sm rfl ?_; refine Sf rfl rfl rfl rfl rfl (fld rfl rfl) ?_; refine S_load rfl rfl rfl rfl rfl ?_; refine L_sub (Rd.own m0) (ty rfl) rfl ?_))
      refine S_w rfl rfl rfl (W_callC (vs := [.agg (idc x.id).toArray]) (cap := [ptr b0_2 0, ptr b0_3 0]) [_, _] _ (garbage1_s a1_k f0_1 (by omega)) rfl rfl rfl ⟨_, _, rfl, rfl, rfl⟩ (cal rfl) rfl ?_)
      rintro hq Lq _ hlq ⟨rfl, rfl⟩
      (focus (refine OPS_nil ?_; refine block_n ?_; refine then_n ?_; refine R_region ?_; refine S_q rfl rfl rfl (Q_add rfl rfl rfl (by omega)) ?_; refine Sm rfl ?_; refine OPS_nil ?_))
      refine roundF_n (j + 1, _) (by simp only; omega) ⟨rfl, by simp only; omega, ?_⟩ (by repeat' first | exact sR _ | exact sA _ _ | exact sN _ | apply s2 | apply s1) (by repeat' first | exact trivial | refine ⟨rfl, ?_⟩)
      simp only; rw [htk, deadN_snoc, hn4]; omega
    have hge : j = v.scions.length := by omega
    subst hge
    rw [List.take_length] at hn4 hb4
    (focus (refine Wr ?_; refine Sc rfl rfl rfl rfl rfl rfl rfl ?_; refine On ?_; refine WP_seq ?_; refine WP_cond rfl (fun c15_1 => ?_) (fun c15_1 => ?_) <;> (first | (simp [*] at c15_1; done) | (try simp at c15_1)); refine WP_exit ?_; refine then_e ?_; refine roundF_e ?_; refine block_e ?_; refine block_n ?_; refine then_n ?_; refine R_region ?_; refine S_q rfl rfl rfl (Q_add rfl rfl rfl (by omega)) ?_; refine Sm rfl ?_; refine OPS_nil ?_))
    refine roundF_n (k + 1, n4) (by simp only; omega) ⟨rfl, by simp only; omega, ?_⟩ (by repeat' first | exact sR _ | exact sA _ _ | exact sN _ | apply s2 | apply s1) (by repeat' first | exact trivial | refine ⟨rfl, ?_⟩)
    simp only; rw [hsum, ← hn, hn4, hn3, hn2, garbageOf_def]; omega
  · have hge : k = vs.length := by omega
    subst hge
    rw [List.take_length] at hn
    (focus (refine Wr ?_; refine Sc rfl rfl rfl rfl rfl rfl rfl ?_; refine On ?_; refine WP_seq ?_; refine WP_cond rfl (fun c16_1 => ?_) (fun c16_1 => ?_) <;> (first | (simp [*] at c16_1; done) | (try simp at c16_1)); refine WP_exit ?_; refine then_e ?_; refine roundF_e ?_; refine block_e ?_; refine then_n ?_; refine Wr ?_; refine S_load rfl rfl rfl rfl rfl ?_; refine L_one (Rd.own m0) (ty rfl) ?_; refine Sm rfl ?_; refine On ?_; refine WP_ret ?_))
    refine pret (.inl rfl) rfl ⟨_, _, rfl, rfl, rfl⟩ ?_
    simp only [resOf]; rw [hn, garbageR]
end Go.Proofs.YtfhoecgiahpddaaGreat
/-
  CONTRACTS: slices.Grow and slices.Concat at identities.
-/
set_option linter.all false
namespace Go.Proofs.YtfhoecgiahpddaaGreat
open Go.Mesh Go.RowKit
set_option maxRecDepth 100000
set_option linter.unusedVariables false
set_option maxHeartbeats 4000000
attribute [local irreducible] WP OPS ANY ANYo LG LV FSpec PSpec QOP OPc OPw thenQ blockQ roundQ roundF retQ retM Rd At SLB OS cmpI orI cmpID namedB valB nodeB kindB validG valAux idxI findG zeroV viewOf vwAt idxOf recv flyB scionOf moveOf numberedOf idOf valueOf mget mput localB carriedB stubOf followF followOf flOf flightsOf flPre setL minusL compactL putI mergeN insN insAll unionR NMap Coll retN bodyS GMap Dfs refsV refsOf reachL movedOf movedG graphParts graphR isMove flightIDs mailIDs viewIDs rawRoots rootsR reachR deadN viewObjs garbageOf garbageR objsL
def IDsC (B : Nat) : CR (List ID) := fun h l vs => ∃ p c, vs = [.slice p l.length c] ∧ SLB B h 2 IDC (.slice p l.length c) l
instance (B : Nat) : CM (IDsC B) := ⟨fun _ _ _ _ hl ⟨p, c, e, s⟩ => ⟨p, c, e, s.mono hl IDC_mono⟩⟩
theorem flat_take {α : Type} {ls : List (List α)} {k : Nat} {l : List α} (hl : ls[k]? = some l) : (ls.take (k + 1)).flatten = (ls.take k).flatten ++ l := by
  rw [List.take_add_one, hl]; simp
theorem flat_take_le {α : Type} (ls : List (List α)) (k : Nat) : (ls.take k).flatten.length ≤ ls.flatten.length := by
  conv => rhs; rw [← List.take_append_drop k ls, List.flatten_append, List.length_append]
  omega
theorem grow_s {h : Frag} {n : Nat} (hn : n ≤ 4398046511104) : FSpec Tryz.prog 107 #[.slice none 0 0, .int .i64 (n : Int)] h [] (fun h' L' v => h' = h ∧ ∃ p c, v = .slice p ([] : List ID).length c ∧ OS h 35 2 IDC (.slice p ([] : List ID).length c) [] L') := by
  refine spec_of (vs := [.slice none 0 0, .int .i64 (n : Int)]) Tryz.func107 Tryz.ntmps107 rfl rfl rfl ?_
  (focus (refine Wr ?_; refine Sm rfl ?_; refine On ?_; refine WP_seq ?_; refine Wr ?_; refine Sm rfl ?_; refine Sc rfl rfl rfl rfl rfl rfl rfl ?_; refine On ?_; refine cond_f rfl ?_; refine WP_skip ?_; refine then_n ?_; refine WP_seq ?_; refine Wr ?_; refine Sm rfl ?_; refine Sm rfl ?_; refine S_q rfl rfl rfl (Q_cap rfl rfl rfl rfl rfl rfl) ?_; refine Sm rfl ?_; refine S_q rfl rfl rfl (Q_len rfl rfl rfl rfl rfl rfl) ?_; refine S_q rfl rfl rfl (Q_sub rfl rfl rfl (by omega)) ?_; refine S_q rfl rfl rfl (Q_sub rfl rfl rfl (by omega)) ?_; refine Sm rfl ?_; refine On ?_; refine Wr ?_; refine Sm rfl ?_; refine Sc rfl rfl rfl rfl rfl rfl rfl ?_; refine On ?_; refine WP_cond rfl (fun c0_1 => ?_) (fun c0_1 => ?_) <;> (first | (simp [*] at c0_1; done) | (try simp at c0_1)); (focus (refine R_region ?_; refine Sm rfl ?_; refine Sm rfl ?_; refine S_q rfl rfl rfl (Q_cap rfl rfl rfl rfl rfl rfl) ?_; refine S_q rfl rfl rfl (Q_slice0 rfl rfl (elm rfl) rfl rfl) ?_; refine Sm rfl ?_)); rotate_left 1; (focus (refine WP_skip ?_; refine then_n ?_; refine Wr ?_; refine Sm rfl ?_; refine Sm rfl ?_; refine On ?_; refine WP_ret ?_)); rotate_left 1))
  · refine S_c rfl rfl rfl (C_appZ n rfl rfl rfl rfl rfl rfl (by simp) (elm rfl) (zer rfl) rfl (by rfl) (by omega) (by decide) (by omega) (by omega) ?_)
    rintro b cap rest hc hl
    (focus (refine Sm rfl ?_; refine S_q rfl rfl rfl (Q_len rfl rfl rfl rfl rfl rfl) ?_; refine S_q rfl rfl rfl (Q_slice rfl rfl (elm rfl) rfl ⟨_, rfl⟩ (by omega) (by omega) (by omega)) ?_; refine Sm rfl ?_; refine On ?_; refine Wr ?_; refine Sm rfl ?_; refine Sm rfl ?_; refine On ?_; refine WP_ret ?_))
    exact ret_q [(b, cells rest 35)] (.inl rfl) rfl ⟨_, _, rfl, rfl, rfl⟩ (by repeat' first | exact sR _ | exact sA _ _ | exact sN _ | apply s2 | apply s1) ⟨rfl, some ⟨b, 0, none⟩, cap, rfl, OS.make (xs := []) (rest := rest) rfl (Nat.zero_le _) (by simpa [flatI] using hl)⟩
  · subst c0_1
    exact ret_q [] (.inl rfl) rfl ⟨_, _, rfl, rfl, rfl⟩ (by repeat' first | exact sR _ | exact sA _ _ | exact sN _ | apply s2 | apply s1) ⟨rfl, _, _, rfl, OS.nil _ _ _ _⟩
theorem concat_s {h : Frag} {a : Value} {ls : List (List ID)} (hs : SL h 1 (IDsC 4398046511104) a ls) (hb : ls.flatten.length ≤ 4000000) : FSpec Tryz.prog 64 #[a] h [] (fun h' L' v => h' = h ∧ ∃ p c, v = .slice p ls.flatten.length c ∧ OS h 35 2 IDC (.slice p ls.flatten.length c) ls.flatten L') := by
  have hl := hs.le
  obtain ⟨pv, cv, rfl⟩ := hs.slice
  refine spec_of (vs := [.slice pv ls.length cv]) Tryz.func64 Tryz.ntmps64 rfl rfl rfl ?_
  (focus (refine Wr ?_; refine Sm rfl ?_; refine On ?_; refine Wr ?_; refine Sm rfl ?_; refine On ?_; refine WP_seq ?_; refine Wr ?_; refine Sm rfl ?_; refine S_q rfl rfl rfl (Q_len rfl rfl rfl rfl rfl rfl) ?_; refine Sm rfl ?_; refine On ?_; refine WP_block ?_))
  (refine WP_loopC (α := Nat) [10, 9, 0] (fun (k : Nat) => ls.length - k) (fun (k : Nat) => [(11, .int .i64 (k : Int)), (3, .int .i64 (((ls.take k).flatten.length : Nat) : Int))]) (fun hh (k : Nat) => hh = h ∧ k ≤ ls.length) 0 ⟨_, _, rfl, ⟨_, _, rfl, ⟨_, _, rfl, rfl, rfl⟩, rfl⟩, rfl⟩ (by repeat' first | exact trivial | refine ⟨rfl, ?_⟩) ?_ ?_)
  · exact ⟨rfl, Nat.zero_le _⟩
  rintro h1 k _ ⟨rfl, hk⟩
  have hle := flat_take_le ls k
  by_cases hlt : k < ls.length
  · obtain ⟨l, el⟩ := get_of hlt
    have htk := flat_take el
    have hle2 := flat_take_le ls (k + 1)
    rw [htk, List.length_append] at hle2
    (focus (refine Wr ?_; refine Sc rfl rfl rfl rfl rfl rfl rfl ?_; refine On ?_; refine WP_seq ?_; refine WP_cond rfl (fun c2_1 => ?_) (fun c2_1 => ?_) <;> (first | (simp [*] at c2_1; done) | (try simp at c2_1)); refine WP_skip ?_; refine then_n ?_; refine WP_seq ?_; refine WP_block ?_; refine Wr ?_; refine S_q rfl rfl rfl (Q_indexS ‹_› ‹_› rfl rfl rfl (elm rfl) rfl) ?_; refine S_load rfl rfl rfl rfl rfl ?_; refine L_el1 ‹_› ‹_› (ty rfl) ?_; rintro _ ⟨pi2_2, qi2_2, ⟨⟩, fi2_2⟩; refine Sm rfl ?_; refine On ?_; refine Wr ?_; refine Sm rfl ?_; refine Sm rfl ?_; refine S_q rfl rfl rfl (Q_len rfl rfl rfl rfl rfl rfl) ?_; refine S_q rfl rfl rfl (Q_add rfl rfl rfl (by omega)) ?_; refine Sm rfl ?_; refine On ?_; refine Wr ?_; refine Sm rfl ?_; refine Sc rfl rfl rfl rfl rfl rfl rfl ?_; refine On ?_; refine cond_f rfl ?_; refine WP_skip ?_; refine block_n ?_; refine then_n ?_; refine R_region ?_; refine S_q rfl rfl rfl (Q_add rfl rfl rfl (by omega)) ?_; refine Sm rfl ?_; refine OPS_nil ?_))
    refine roundF_n (k + 1) (by omega) ⟨rfl, by omega⟩ (by repeat' first | exact sR _ | exact sA _ _ | exact sN _ | apply s2 | apply s1) ?_
    rw [htk, List.length_append, Int.natCast_add]
    exact (by repeat' first | exact trivial | refine ⟨rfl, ?_⟩)
  have hge : k = ls.length := by omega
  subst hge
  rw [List.take_length]
  (focus (refine Wr ?_; refine Sc rfl rfl rfl rfl rfl rfl rfl ?_; refine On ?_; refine WP_seq ?_; refine WP_cond rfl (fun c3_1 => ?_) (fun c3_1 => ?_) <;> (first | (simp [*] at c3_1; done) | (try simp at c3_1)); refine WP_exit ?_; refine then_e ?_; refine roundF_e ?_; refine block_e ?_; refine then_n ?_; refine Wr ?_; refine Sm rfl ?_; refine S_c rfl rfl rfl (C_callF (grow_s (by omega)) rfl rfl ⟨_, _, rfl, ⟨_, _, rfl, rfl, rfl⟩, rfl⟩ (cal rfl) ?_); rintro h3_2 m3_2 _ l3_2 ⟨e3_2, p3_2, q3_2, rfl, o3_2⟩; replace hs := hs.up l3_2; replace o3_2 := o3_2.up l3_2; refine Sm rfl ?_; refine On ?_; refine WP_seq ?_; refine Wr ?_; refine Sm rfl ?_; refine S_q rfl rfl rfl (Q_len rfl rfl rfl rfl rfl rfl) ?_; refine Sm rfl ?_; refine On ?_; refine WP_block ?_))
  subst e3_2
  clear hle
  (refine WP_loopF (α := Nat × List ID × Option Addr × Nat × Hp) [26, 25] (fun (s : Nat × List ID × Option Addr × Nat × Hp) => ls.length - s.1) (fun (s : Nat × List ID × Option Addr × Nat × Hp) => s.2.2.2.2 ++ []) (fun (s : Nat × List ID × Option Addr × Nat × Hp) => [(27, .int .i64 (s.1 : Int)), (6, .slice s.2.2.1 s.2.1.length s.2.2.2.1)]) (fun hh (s : Nat × List ID × Option Addr × Nat × Hp) => hh = h3_2 ∧ s.1 ≤ ls.length ∧ s.2.1 = (ls.take s.1).flatten ∧ OS h3_2 35 2 IDC (.slice s.2.2.1 s.2.1.length s.2.2.2.1) s.2.1 s.2.2.2.2) (0, [], p3_2, q3_2, m3_2) ⟨_, _, rfl, ⟨_, _, rfl, rfl, rfl⟩, rfl⟩ ?_ (by repeat' first | exact sR _ | exact sA _ _ | exact sN _ | apply s2 | apply s1) (by repeat' first | exact trivial | refine ⟨rfl, ?_⟩) ?_)
  · exact ⟨rfl, Nat.zero_le _, rfl, o3_2⟩
  clear o3_2
  rintro h2 ⟨k, out, p, c, M⟩ _ ⟨rfl, hk, ho, hO⟩
  simp only at hk ho hO
  dsimp only
  have hle := flat_take_le ls k
  rw [← ho] at hle
  by_cases hlt : k < ls.length
  · obtain ⟨l, el⟩ := get_of hlt
    have htk := flat_take el
    have hle2 := flat_take_le ls (k + 1)
    rw [htk, ← ho, List.length_append] at hle2
    (focus (refine Wr ?_; refine Sc rfl rfl rfl rfl rfl rfl rfl ?_; refine On ?_; refine WP_seq ?_; refine WP_cond rfl (fun c5_1 => ?_) (fun c5_1 => ?_) <;> (first | (simp [*] at c5_1; done) | (try simp at c5_1)); refine WP_skip ?_; refine then_n ?_; refine WP_seq ?_; refine WP_block ?_; refine Wr ?_; refine S_q rfl rfl rfl (Q_indexS ‹_› ‹_› rfl rfl rfl (elm rfl) rfl) ?_; refine S_load rfl rfl rfl rfl rfl ?_; refine L_el1 ‹_› ‹_› (ty rfl) ?_; rintro _ ⟨pi5_2, qi5_2, ⟨⟩, fi5_2⟩; refine Sm rfl ?_; refine On ?_; refine R_region ?_; refine Sm rfl ?_; refine Sm rfl ?_; refine S_w rfl rfl rfl (W_appS [] _ ‹_› ‹_› rfl rfl rfl rfl rfl rfl (elm rfl) (zer rfl) rfl rfl (by (try simp only [lA]); omega) (by (try simp only [lA]); omega) ?_); rintro p5_3 q5_3 m5_3 o5_3; refine Sm rfl ?_; refine OPS_nil ?_; refine block_n ?_; refine then_n ?_; refine R_region ?_; refine S_q rfl rfl rfl (Q_add rfl rfl rfl (by omega)) ?_; refine Sm rfl ?_; refine OPS_nil ?_))
    refine roundF_n (k + 1, out ++ l, p5_3, q5_3, m5_3) (by simp only; omega) ⟨rfl, by simp only; omega, ?_, o5_3⟩ (by repeat' first | exact sR _ | exact sA _ _ | exact sN _ | apply s2 | apply s1) (by repeat' first | exact trivial | refine ⟨rfl, ?_⟩)
    simp only; rw [htk, ho]
  have hge : k = ls.length := by omega
  subst hge
  rw [List.take_length] at ho
  subst ho
  (focus (refine Wr ?_; refine Sc rfl rfl rfl rfl rfl rfl rfl ?_; refine On ?_; refine WP_seq ?_; refine WP_cond rfl (fun c6_1 => ?_) (fun c6_1 => ?_) <;> (first | (simp [*] at c6_1; done) | (try simp at c6_1)); refine WP_exit ?_; refine then_e ?_; refine roundF_e ?_; refine block_e ?_; refine then_n ?_; refine Wr ?_; refine Sm rfl ?_; refine Sm rfl ?_; refine On ?_; refine WP_ret ?_))
  exact ret_q M (.inl rfl) rfl ⟨_, _, rfl, rfl, rfl⟩ (by repeat' first | exact sR _ | exact sA _ _ | exact sN _ | apply s2 | apply s1) ⟨rfl, p, c, rfl, hO⟩
end Go.Proofs.YtfhoecgiahpddaaGreat
