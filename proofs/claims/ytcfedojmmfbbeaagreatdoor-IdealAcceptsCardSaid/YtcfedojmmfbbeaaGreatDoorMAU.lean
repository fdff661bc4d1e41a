/-
  Part MAU of the proof's ground: Ij, Ik, Il, Im.
-/
import Derived.Test.YtcfedojmmfbbeaaGreatDoorMAT
/-
  CONTRACTS: a heap made.
-/
set_option linter.all false
namespace Go.Proofs.YtcfedojmmfbbeaaGreatDoor
open Go.Mesh Go.RowKit
set_option maxRecDepth 100000
set_option linter.unusedVariables false
set_option maxHeartbeats 4000000
attribute [local irreducible] WP OPS ANY ANYo LG LV FSpec PSpec QOP OPc OPw thenQ blockQ roundQ roundF retQ retM Rd At SLB OS opsL opsV onm omost oargs oleast opops opush ocnt otext nameV validI effP effQ targL idxI operB existsB bigM bigC largeB badM badC checkE
theorem new_s {h : Frag} {cs : List Cls} {a : List Value} (hg : GB h) (hc : CodeC 8796093022208 h cs a) : PSpec Tryz.prog 6 #[.agg a.toArray] h (fun h' v => (checkE cs ≠ 0 ∧ v = .tuple #[.pointer none, .int .i64 1]) ∨ (checkE cs = 0 ∧ ∃ b b1 b2 p n c, v = .tuple #[ptr b 0, .int .i64 0] ∧ h' b = some (cells [.slice p n c, .map (some b1), .map (some b2), .slice none 0 0, .slice none 0 0, .slice none 0 0, .int .i64 0, .int .i64 0, .int .i64 0, .int .i64 0, .int .i64 0, .int .i64 0, .int .i64 0, .int .i64 0, .int .i64 0] 75) ∧ h' b1 = some (mapObj itv []) ∧ h' b2 = some (mapObj itv []))) := by
  obtain ⟨p, c, rfl, s1⟩ := hc
  have hl := s1.le
  refine pspec_of (vs := [.agg [Value.slice p cs.length c].toArray]) Tryz.func6 Tryz.ntmps6 rfl rfl ?_
  by_cases hz : checkE cs = 0
  · (focus (refine WP_seq ?_; refine R_region ?_; refine S_c rfl rfl rfl (C_box rfl rfl ?_); intro b0_1; refine S_q rfl rfl rfl (Q_assign rfl rfl) ?_; refine S_q rfl rfl rfl (Q_assign rfl rfl) ?_; refine OPS_nil ?_; refine then_n ?_; refine WP_seq ?_; refine WP_seq ?_; refine R_region ?_; refine S_load rfl rfl rfl rfl rfl ?_; refine L_agg (Rd.own m0) (ty rfl) (by first | rfl | assumption) ?_; refine S_c rfl rfl rfl (C_call (check_s (by assumption) ⟨_, _, rfl, by assumption⟩) rfl rfl ⟨_, _, rfl, rfl, rfl⟩ (cal rfl) ?_); rintro h0_2 _ l0_2 rfl; replace hg := hg.up l0_2; replace s1 := s1.up l0_2; refine S_q rfl rfl rfl (Q_cmp rfl rfl rfl rfl) ?_; refine OPS_nil ?_; refine then_n ?_; refine WP_cond rfl (fun c0_3 => ?_) (fun c0_3 => ?_) <;> (first | (simp [*] at c0_3; done) | (try simp at c0_3)); refine WP_skip ?_; refine then_n ?_; refine WP_seq ?_; refine R_region ?_; refine S_load rfl rfl rfl rfl rfl ?_; refine L_agg (Rd.own m0) (ty rfl) (by first | rfl | assumption) ?_; refine S_c rfl rfl rfl (C_makeMap itv rfl ?_); intro b0_4; refine S_c rfl rfl rfl (C_makeMap itv rfl ?_); intro b0_5; refine S_q rfl rfl rfl (Q_build rfl (by decide +kernel) (zer rfl) ⟨_, _, _, _, _, _, _, rfl, fld rfl rfl, ty rfl, rfl, rfl, ⟨_, _, _, _, _, _, _, rfl, fld rfl rfl, ty rfl, rfl, rfl, ⟨_, _, _, _, _, _, _, rfl, fld rfl rfl, ty rfl, rfl, rfl, rfl, rfl⟩, rfl⟩, rfl⟩ rfl) ?_; refine S_c rfl rfl rfl (C_box rfl rfl ?_); intro b0_6; refine S_q rfl rfl rfl (Q_assign rfl rfl) ?_; refine S_q rfl rfl rfl (Q_assign rfl rfl) ?_; refine OPS_nil ?_; refine then_n ?_; refine WP_ret ?_))
    refine pretKall (.inl rfl) rfl ⟨_, _, rfl, ⟨_, _, rfl, rfl, rfl⟩, rfl⟩ fun h' hl hm => .inr ⟨hz, _, _, _, _, _, _, rfl, hm _ m0, hm _ m2, hm _ m1⟩
  · (focus (refine WP_seq ?_; refine R_region ?_; refine S_c rfl rfl rfl (C_box rfl rfl ?_); intro b1_1; refine S_q rfl rfl rfl (Q_assign rfl rfl) ?_; refine S_q rfl rfl rfl (Q_assign rfl rfl) ?_; refine OPS_nil ?_; refine then_n ?_; refine WP_seq ?_; refine WP_seq ?_; refine R_region ?_; refine S_load rfl rfl rfl rfl rfl ?_; refine L_agg (Rd.own m0) (ty rfl) (by first | rfl | assumption) ?_; refine S_c rfl rfl rfl (C_call (check_s (by assumption) ⟨_, _, rfl, by assumption⟩) rfl rfl ⟨_, _, rfl, rfl, rfl⟩ (cal rfl) ?_); rintro h1_2 _ l1_2 rfl; replace hg := hg.up l1_2; replace s1 := s1.up l1_2; refine S_q rfl rfl rfl (Q_cmp rfl rfl rfl rfl) ?_; refine OPS_nil ?_; refine then_n ?_; refine WP_cond rfl (fun c1_3 => ?_) (fun c1_3 => ?_) <;> (first | (simp [*] at c1_3; done) | (try simp at c1_3)); refine WP_seq ?_; refine R_region ?_; refine S_q rfl rfl rfl (Q_assign rfl rfl) ?_; refine S_q rfl rfl rfl (Q_assign rfl rfl) ?_; refine OPS_nil ?_; refine then_n ?_; refine WP_ret ?_; refine then_r ?_))
    refine pret (.inl rfl) rfl ⟨_, _, rfl, ⟨_, _, rfl, rfl, rfl⟩, rfl⟩ ?_
    exact .inl ⟨hz, rfl⟩
end Go.Proofs.YtcfedojmmfbbeaaGreatDoor
/-
  CONTRACTS: the size of a program (only that it ends with an answer).
-/
set_option linter.all false
namespace Go.Mesh
open Go.RowKit
section
variable {P : Program} {r : Option Nat} {h : Frag} {L : Hp} {fr : Fr} {o : Oper}
theorem Q_lenStr {c : Call} {x : Operand} {t : TypeId} {s : ByteArray} (hop : o.op = .call c) (hc : c.callee = .builtin .len) (ha : c.args = #[x]) (hat : c.argTypes = #[t]) (hx : ev fr x = some (.string s)) (ht : P.underlying t = some .string) : QOP P o fr h L (.int .i64 (s.size : Int)) :=
  ⟨fun c => by rw [hop]; simp, fun a hal w hw => by
    unfold execOp; rw [hop]
    simp [resolve, hc, ha, hat, invoke, builtin, Builtin.len_, hal x _ hx, run_underlying' ht, goInt]⟩
theorem Q_quoK {t u : TypeId} {x y : Operand} {m n : Int} (hop : o.op = .binOp .quo t x y u) (hx : ev fr x = some (.int .i64 m)) (hy : ev fr y = some (.int .i64 n)) (hn : n ≠ 0) : QOP P o fr h L (.int .i64 (IntKind.i64.wrap (m.tdiv n))) :=
  ⟨fun c => by rw [hop]; simp, fun a ha w _ => by
    unfold execOp; rw [hop]
    simp only [ha x _ hx, ha y _ hy, eqGuard, binOp]
    simp [Op.intArith, Op.intDiv, hn]⟩
end
end Go.Mesh
namespace Go.Proofs.YtcfedojmmfbbeaaGreatDoor
open Go.Mesh Go.RowKit
set_option maxRecDepth 100000
set_option linter.unusedVariables false
set_option maxHeartbeats 4000000
attribute [local irreducible] WP OPS ANY ANYo LG LV FSpec PSpec QOP OPc OPw thenQ blockQ roundQ roundF retQ retM Rd At SLB OS opsL opsV onm omost oargs oleast opops opush ocnt otext nameV validI effP effQ targL idxI operB existsB bigM bigC largeB badM badC checkE
theorem few_s {h : Frag} {cs : List Cls} {a : List Value} (hc : CodeC 8796093022208 h cs a) (most : Int) : PSpec Tryz.prog 5 #[.agg a.toArray, .int .i64 most] h (fun _ v => ∃ b, v = .bool b) := by
  obtain ⟨p, c, rfl, s1⟩ := hc
  have hl := s1.le
  refine pspec_of (vs := [.agg [Value.slice p cs.length c].toArray, .int .i64 most]) Tryz.func5 Tryz.ntmps5 rfl rfl ?_
  (focus (refine WP_seq ?_; refine R_region ?_; refine S_c rfl rfl rfl (C_box rfl rfl ?_); intro b0_1; refine S_q rfl rfl rfl (Q_assign rfl rfl) ?_; refine OPS_nil ?_; refine then_n ?_; refine WP_seq ?_; refine R_region ?_; refine S_q rfl rfl rfl (Q_fieldAddr rfl rfl (fld rfl rfl)) ?_; refine S_load rfl rfl rfl rfl rfl ?_; refine L_one (Rd.own m0) (ty rfl) ?_; refine S_q rfl rfl rfl (Q_len rfl rfl rfl rfl rfl rfl) ?_; refine S_q rfl rfl rfl (Q_assign rfl rfl) ?_; refine OPS_nil ?_; refine then_n ?_; refine WP_seq ?_; refine WP_seq ?_; refine R_region ?_; refine S_q rfl rfl rfl (Q_assign rfl rfl) ?_; refine OPS_nil ?_; refine then_n ?_; refine WP_block ?_))
  (refine WP_loopC (α := Nat × Int) [2, 1] (fun (s : Nat × Int) => cs.length - s.1) (fun (s : Nat × Int) => [(6, .int .i64 (s.1 : Int)), (5, .int .i64 s.2)]) (fun hh (s : Nat × Int) => hh = h ∧ s.1 ≤ cs.length) (0, (cs.length : Int)) ⟨_, _, rfl, ⟨_, _, rfl, rfl, rfl⟩, rfl⟩ (by repeat' (first | exact trivial | refine ⟨rfl, ?_⟩)) ?_ ?_)
  · exact ⟨rfl, Nat.zero_le _⟩
  rintro h1 ⟨i, n⟩ _ ⟨rfl, hi⟩
  simp only at hi
  dsimp only
  by_cases hlt : i < cs.length
  · obtain ⟨k, ek⟩ := get_of hlt
    (focus (refine WP_seq ?_; refine WP_seq ?_; refine R_region ?_; refine S_q rfl rfl rfl (Q_move rfl rfl) ?_; refine S_q rfl rfl rfl (Q_fieldAddr rfl rfl (fld rfl rfl)) ?_; refine S_load rfl rfl rfl rfl rfl ?_; refine L_one (Rd.own m0) (ty rfl) ?_; refine S_q rfl rfl rfl (Q_len rfl rfl rfl rfl rfl rfl) ?_; refine S_q rfl rfl rfl (Q_cmp rfl rfl rfl rfl) ?_; refine S_q rfl rfl rfl (Q_move rfl rfl) ?_; refine S_gsplit rfl rfl rfl rfl (fun c2_1 => ?_) (fun c2_1 => ?_) <;> (first | (simp [*] at c2_1; done) | (try simp at c2_1)); refine S_gq rfl rfl rfl rfl rfl rfl (Q_move rfl rfl) ?_; refine S_gq rfl rfl rfl rfl rfl rfl (Q_move rfl rfl) ?_; refine S_gq rfl rfl rfl rfl rfl rfl (Q_cmp rfl rfl rfl rfl) ?_; refine S_q rfl rfl rfl (Q_pick_t rfl rfl rfl) ?_; refine OPS_nil ?_; refine then_n ?_; refine WP_cond rfl (fun c2_2 => ?_) (fun c2_2 => ?_) <;> (first | (simp [*] at c2_2; done) | (try simp at c2_2)); (focus (refine WP_skip ?_; refine then_n ?_; refine WP_seq ?_; refine WP_block ?_; refine WP_seq ?_; refine R_region ?_; refine S_q rfl rfl rfl (Q_fieldAddr rfl rfl (fld rfl rfl)) ?_; refine S_load rfl rfl rfl rfl rfl ?_; refine L_one (Rd.own m0) (ty rfl) ?_; refine S_q rfl rfl rfl (Q_move rfl rfl) ?_; refine S_q rfl rfl rfl (Q_indexS (by assumption) (by assumption) rfl rfl rfl (elm rfl) rfl) ?_; refine S_load rfl rfl rfl rfl rfl ?_; refine L_elA (by assumption) (by assumption) (ty rfl) ?_; rintro _ _ _ ⟨xs2_3, pf2_3, qf2_3, pm2_3, qm2_3, rfl, sf2_3, sm2_3⟩; refine S_c rfl rfl rfl (C_alloc rfl (zer rfl) ?_); intro b2_4; refine S_w0 rfl rfl (W_all rfl rfl rfl (ty rfl) u0 (by first | rfl | assumption) (by first | rfl | assumption) (by first | rfl | assumption | exact ones_sub (by assumption) _ _) ?_); refine OPS_nil ?_; refine then_n ?_; refine WP_seq ?_; refine R_region ?_; refine S_q rfl rfl rfl (Q_move rfl rfl) ?_; refine S_q rfl rfl rfl (Q_fieldAddr rfl rfl (fld rfl rfl)) ?_; refine S_load rfl rfl rfl rfl rfl ?_; refine L_fld (Rd.own m0) (ty rfl) rfl ?_; refine S_q rfl rfl rfl (Q_len rfl rfl rfl rfl rfl rfl) ?_; refine S_q rfl rfl rfl (Q_arith rfl rfl rfl rfl) ?_; refine S_q rfl rfl rfl (Q_fieldAddr rfl rfl (fld rfl rfl)) ?_; refine S_load rfl rfl rfl rfl rfl ?_; refine L_fld (Rd.own m0) (ty rfl) rfl ?_; refine S_q rfl rfl rfl (Q_len rfl rfl rfl rfl rfl rfl) ?_; refine S_q rfl rfl rfl (Q_arith rfl rfl rfl rfl) ?_; refine S_q rfl rfl rfl (Q_fieldAddr rfl rfl (fld rfl rfl)) ?_; refine S_load rfl rfl rfl rfl rfl ?_; refine L_fld (Rd.own m0) (ty rfl) rfl ?_; refine S_q rfl rfl rfl (Q_lenStr rfl rfl rfl rfl rfl rfl) ?_; refine S_q rfl rfl rfl (Q_quoK rfl rfl rfl (by decide)) ?_; refine S_q rfl rfl rfl (Q_move rfl rfl) ?_; refine S_q rfl rfl rfl (Q_arith rfl rfl rfl rfl) ?_; refine S_q rfl rfl rfl (Q_arith rfl rfl rfl rfl) ?_; refine S_q rfl rfl rfl (Q_assign rfl rfl) ?_; refine OPS_nil ?_; refine then_n ?_; refine WP_seq ?_; refine WP_seq ?_; refine R_region ?_; refine S_q rfl rfl rfl (Q_assign rfl rfl) ?_; refine OPS_nil ?_; refine then_n ?_; refine WP_block ?_)); rotate_left 1; (focus (refine WP_exit ?_; refine then_e ?_; refine roundF_e ?_; refine block_e ?_; refine then_n ?_; refine WP_seq ?_; refine R_region ?_; refine S_q rfl rfl rfl (Q_move rfl rfl) ?_; refine S_q rfl rfl rfl (Q_move rfl rfl) ?_; refine S_q rfl rfl rfl (Q_cmp rfl rfl rfl rfl) ?_; refine S_q rfl rfl rfl (Q_assign rfl rfl) ?_; refine OPS_nil ?_; refine then_n ?_; refine WP_ret ?_)); rotate_left 1))
    rotate_left 1
    · refine pret (.inl rfl) rfl ⟨_, _, rfl, rfl, rfl⟩ ?_
      exact ⟨_, rfl⟩
    have hl2 := sf2_3.le
    have hl3 := sm2_3.le
    (refine WP_loopC (α := Nat × Int) [7, 6, 2, 1] (fun (s : Nat × Int) => k.fields.length - s.1) (fun (s : Nat × Int) => [(8, .int .i64 (s.1 : Int)), (5, .int .i64 s.2)]) (fun hh (s : Nat × Int) => hh = h1 ∧ s.1 ≤ k.fields.length) (0, _) ⟨_, _, rfl, ⟨_, _, rfl, ⟨_, _, rfl, ⟨_, _, rfl, rfl, rfl⟩, rfl⟩, rfl⟩, rfl⟩ (by repeat' (first | exact trivial | refine ⟨rfl, ?_⟩)) ?_ ?_)
    · exact ⟨rfl, Nat.zero_le _⟩
    clear n c2_2
    rintro h2 ⟨j, n⟩ _ ⟨rfl, hj⟩
    simp only at hj
    dsimp only
    by_cases hlt2 : j < k.fields.length
    · obtain ⟨y, ey⟩ := get_of hlt2
      (focus (refine WP_seq ?_; refine WP_seq ?_; refine R_region ?_; refine S_q rfl rfl rfl (Q_move rfl rfl) ?_; refine S_q rfl rfl rfl (Q_fieldAddr rfl rfl (fld rfl rfl)) ?_; refine S_load rfl rfl rfl rfl rfl ?_; refine L_fld (Rd.own m0) (ty rfl) rfl ?_; refine S_q rfl rfl rfl (Q_len rfl rfl rfl rfl rfl rfl) ?_; refine S_q rfl rfl rfl (Q_cmp rfl rfl rfl rfl) ?_; refine S_q rfl rfl rfl (Q_move rfl rfl) ?_; refine S_gsplit rfl rfl rfl rfl (fun c4_1 => ?_) (fun c4_1 => ?_) <;> (first | (simp [*] at c4_1; done) | (try simp at c4_1)); refine S_gq rfl rfl rfl rfl rfl rfl (Q_move rfl rfl) ?_; refine S_gq rfl rfl rfl rfl rfl rfl (Q_move rfl rfl) ?_; refine S_gq rfl rfl rfl rfl rfl rfl (Q_cmp rfl rfl rfl rfl) ?_; refine S_q rfl rfl rfl (Q_pick_t rfl rfl rfl) ?_; refine OPS_nil ?_; refine then_n ?_; refine WP_cond rfl (fun c4_2 => ?_) (fun c4_2 => ?_) <;> (first | (simp [*] at c4_2; done) | (try simp at c4_2)); (focus (refine WP_skip ?_; refine then_n ?_; refine WP_seq ?_; refine WP_block ?_; refine R_region ?_; refine S_q rfl rfl rfl (Q_move rfl rfl) ?_; refine S_q rfl rfl rfl (Q_fieldAddr rfl rfl (fld rfl rfl)) ?_; refine S_load rfl rfl rfl rfl rfl ?_; refine L_fld (Rd.own m0) (ty rfl) rfl ?_; refine S_q rfl rfl rfl (Q_move rfl rfl) ?_; refine S_q rfl rfl rfl (Q_indexS (by assumption) (by assumption) rfl rfl rfl (elm rfl) rfl) ?_; refine S_load rfl rfl rfl rfl rfl ?_; refine L_el1 (by assumption) (by assumption) (ty rfl) ?_; rintro _ ⟨⟩; refine S_q rfl rfl rfl (Q_lenStr rfl rfl rfl rfl rfl rfl) ?_; refine S_q rfl rfl rfl (Q_quoK rfl rfl rfl (by decide)) ?_; refine S_q rfl rfl rfl (Q_move rfl rfl) ?_; refine S_q rfl rfl rfl (Q_arith rfl rfl rfl rfl) ?_; refine S_q rfl rfl rfl (Q_arith rfl rfl rfl rfl) ?_; refine S_q rfl rfl rfl (Q_assign rfl rfl) ?_; refine OPS_nil ?_; refine block_n ?_; refine then_n ?_; refine R_region ?_; refine S_q rfl rfl rfl (Q_move rfl rfl) ?_; refine S_q rfl rfl rfl (Q_add rfl rfl rfl (by omega)) ?_; refine S_q rfl rfl rfl (Q_assign rfl rfl) ?_; refine OPS_nil ?_)); rotate_left 1; (focus (refine WP_exit ?_; refine then_e ?_; refine roundF_e ?_; refine block_e ?_; refine then_n ?_; refine WP_seq ?_; refine R_region ?_; refine S_q rfl rfl rfl (Q_assign rfl rfl) ?_; refine OPS_nil ?_; refine then_n ?_; refine WP_block ?_)); rotate_left 1))
      · exact roundF_n (j + 1, _) (by simp only; omega) ⟨rfl, by simp only; omega⟩ (by repeat' (first | exact List.Sublist.refl _ | exact List.sublist_append_left _ _ | exact List.nil_sublist _ | apply List.Sublist.cons₂ | apply List.Sublist.cons)) (by repeat' (first | exact trivial | refine ⟨rfl, ?_⟩))
      · (refine WP_loopC (α := Nat) [7, 6, 2, 1] (fun (u : Nat) => 0) (fun (u : Nat) => [(9, .int .i64 0), (5, .int .i64 n)]) (fun hh (u : Nat) => hh = h2) 0 ⟨_, _, rfl, ⟨_, _, rfl, ⟨_, _, rfl, ⟨_, _, rfl, rfl, rfl⟩, rfl⟩, rfl⟩, rfl⟩ (by repeat' (first | exact trivial | refine ⟨rfl, ?_⟩)) ?_ ?_)
        · rfl
        rintro h3 u _ rfl
        have c9 : ¬ n ≤ most := by omega
        (focus (refine WP_seq ?_; refine WP_seq ?_; refine R_region ?_; refine S_q rfl rfl rfl (Q_move rfl rfl) ?_; refine S_q rfl rfl rfl (Q_fieldAddr rfl rfl (fld rfl rfl)) ?_; refine S_load rfl rfl rfl rfl rfl ?_; refine L_fld (Rd.own m0) (ty rfl) rfl ?_; refine S_q rfl rfl rfl (Q_len rfl rfl rfl rfl rfl rfl) ?_; refine S_q rfl rfl rfl (Q_cmp rfl rfl rfl rfl) ?_; refine S_q rfl rfl rfl (Q_move rfl rfl) ?_; refine S_gsplit rfl rfl rfl rfl (fun c6_1 => ?_) (fun c6_1 => ?_) <;> (first | (simp [*] at c6_1; done) | (try simp at c6_1)); (focus (refine S_gq rfl rfl rfl rfl rfl rfl (Q_move rfl rfl) ?_; refine S_gq rfl rfl rfl rfl rfl rfl (Q_move rfl rfl) ?_; refine S_gq rfl rfl rfl rfl rfl rfl (Q_cmp rfl rfl rfl rfl) ?_; refine S_q rfl rfl rfl (Q_pick_t rfl rfl rfl) ?_; refine OPS_nil ?_; refine then_n ?_; refine WP_cond rfl (fun c6_2 => ?_) (fun c6_2 => ?_) <;> (first | (simp [*] at c6_2; done) | (try simp at c6_2)); refine WP_exit ?_; refine then_e ?_; refine roundF_e ?_; refine block_e ?_; refine block_n ?_; refine then_n ?_; refine R_region ?_; refine S_q rfl rfl rfl (Q_move rfl rfl) ?_; refine S_q rfl rfl rfl (Q_add rfl rfl rfl (by omega)) ?_; refine S_q rfl rfl rfl (Q_assign rfl rfl) ?_; refine OPS_nil ?_)); rotate_left 1; (focus (refine S_gn rfl rfl rfl rfl rfl rfl ?_; refine S_gn rfl rfl rfl rfl rfl rfl ?_; refine S_gn rfl rfl rfl rfl rfl rfl ?_; refine S_q rfl rfl rfl (Q_pick_f rfl rfl rfl) ?_; refine OPS_nil ?_; refine then_n ?_; refine cond_f rfl ?_; refine WP_exit ?_; refine then_e ?_; refine roundF_e ?_; refine block_e ?_; refine block_n ?_; refine then_n ?_; refine R_region ?_; refine S_q rfl rfl rfl (Q_move rfl rfl) ?_; refine S_q rfl rfl rfl (Q_add rfl rfl rfl (by omega)) ?_; refine S_q rfl rfl rfl (Q_assign rfl rfl) ?_; refine OPS_nil ?_)); rotate_left 1))
        all_goals exact roundF_n (i + 1, _) (by simp only; omega) ⟨rfl, by simp only; omega⟩ (by repeat' (first | exact List.Sublist.refl _ | exact List.sublist_append_left _ _ | exact List.nil_sublist _ | apply List.Sublist.cons₂ | apply List.Sublist.cons)) (by repeat' (first | exact trivial | refine ⟨rfl, ?_⟩))
    · have hge : j = k.fields.length := by omega
      subst hge
      (focus (refine WP_seq ?_; refine WP_seq ?_; refine R_region ?_; refine S_q rfl rfl rfl (Q_move rfl rfl) ?_; refine S_q rfl rfl rfl (Q_fieldAddr rfl rfl (fld rfl rfl)) ?_; refine S_load rfl rfl rfl rfl rfl ?_; refine L_fld (Rd.own m0) (ty rfl) rfl ?_; refine S_q rfl rfl rfl (Q_len rfl rfl rfl rfl rfl rfl) ?_; refine S_q rfl rfl rfl (Q_cmp rfl rfl rfl rfl) ?_; refine S_q rfl rfl rfl (Q_move rfl rfl) ?_; refine S_gsplit rfl rfl rfl rfl (fun c7_1 => ?_) (fun c7_1 => ?_) <;> (first | (simp [*] at c7_1; done) | (try simp at c7_1)); refine S_gn rfl rfl rfl rfl rfl rfl ?_; refine S_gn rfl rfl rfl rfl rfl rfl ?_; refine S_gn rfl rfl rfl rfl rfl rfl ?_; refine S_q rfl rfl rfl (Q_pick_f rfl rfl rfl) ?_; refine OPS_nil ?_; refine then_n ?_; refine cond_f rfl ?_; refine WP_exit ?_; refine then_e ?_; refine roundF_e ?_; refine block_e ?_; refine then_n ?_; refine WP_seq ?_; refine R_region ?_; refine S_q rfl rfl rfl (Q_assign rfl rfl) ?_; refine OPS_nil ?_; refine then_n ?_; refine WP_block ?_))
      (refine WP_loopC (α := Nat × Int) [7, 6, 2, 1] (fun (s : Nat × Int) => k.methods.length - s.1) (fun (s : Nat × Int) => [(9, .int .i64 (s.1 : Int)), (5, .int .i64 s.2)]) (fun hh (s : Nat × Int) => hh = h2 ∧ s.1 ≤ k.methods.length) (0, _) ⟨_, _, rfl, ⟨_, _, rfl, ⟨_, _, rfl, ⟨_, _, rfl, rfl, rfl⟩, rfl⟩, rfl⟩, rfl⟩ (by repeat' (first | exact trivial | refine ⟨rfl, ?_⟩)) ?_ ?_)
      · exact ⟨rfl, Nat.zero_le _⟩
      clear n
      rintro h3 ⟨g, n⟩ _ ⟨rfl, hg⟩
      simp only at hg
      dsimp only
      by_cases hlt3 : g < k.methods.length
      · obtain ⟨m, em⟩ := get_of hlt3
        (focus (refine WP_seq ?_; refine WP_seq ?_; refine R_region ?_; refine S_q rfl rfl rfl (Q_move rfl rfl) ?_; refine S_q rfl rfl rfl (Q_fieldAddr rfl rfl (fld rfl rfl)) ?_; refine S_load rfl rfl rfl rfl rfl ?_; refine L_fld (Rd.own m0) (ty rfl) rfl ?_; refine S_q rfl rfl rfl (Q_len rfl rfl rfl rfl rfl rfl) ?_; refine S_q rfl rfl rfl (Q_cmp rfl rfl rfl rfl) ?_; refine S_q rfl rfl rfl (Q_move rfl rfl) ?_; refine S_gsplit rfl rfl rfl rfl (fun c9_1 => ?_) (fun c9_1 => ?_) <;> (first | (simp [*] at c9_1; done) | (try simp at c9_1)); refine S_gq rfl rfl rfl rfl rfl rfl (Q_move rfl rfl) ?_; refine S_gq rfl rfl rfl rfl rfl rfl (Q_move rfl rfl) ?_; refine S_gq rfl rfl rfl rfl rfl rfl (Q_cmp rfl rfl rfl rfl) ?_; refine S_q rfl rfl rfl (Q_pick_t rfl rfl rfl) ?_; refine OPS_nil ?_; refine then_n ?_; refine WP_cond rfl (fun c9_2 => ?_) (fun c9_2 => ?_) <;> (first | (simp [*] at c9_2; done) | (try simp at c9_2)); (focus (refine WP_skip ?_; refine then_n ?_; refine WP_seq ?_; refine WP_block ?_; refine WP_seq ?_; refine R_region ?_; refine S_q rfl rfl rfl (Q_fieldAddr rfl rfl (fld rfl rfl)) ?_; refine S_load rfl rfl rfl rfl rfl ?_; refine L_fld (Rd.own m0) (ty rfl) rfl ?_; refine S_q rfl rfl rfl (Q_move rfl rfl) ?_; refine S_q rfl rfl rfl (Q_indexS (by assumption) (by assumption) rfl rfl rfl (elm rfl) rfl) ?_; refine S_load rfl rfl rfl rfl rfl ?_; refine L_elA (by assumption) (by assumption) (ty rfl) ?_; rintro _ _ _ ⟨ip9_3, iq9_3, xs9_3, pc9_3, qc9_3, pn9_3, qn9_3, rfl, sc9_3, sn9_3⟩; refine S_c rfl rfl rfl (C_alloc rfl (zer rfl) ?_); intro b9_4; refine S_w0 rfl rfl (W_all rfl rfl rfl (ty rfl) u0 (by first | rfl | assumption) (by first | rfl | assumption) (by first | rfl | assumption | exact ones_sub (by assumption) _ _) ?_); refine OPS_nil ?_; refine then_n ?_; refine WP_seq ?_; refine R_region ?_; refine S_q rfl rfl rfl (Q_move rfl rfl) ?_; refine S_q rfl rfl rfl (Q_fieldAddr rfl rfl (fld rfl rfl)) ?_; refine S_load rfl rfl rfl rfl rfl ?_; refine L_fld (Rd.own m0) (ty rfl) rfl ?_; refine S_q rfl rfl rfl (Q_len rfl rfl rfl rfl rfl rfl) ?_; refine S_q rfl rfl rfl (Q_arith rfl rfl rfl rfl) ?_; refine S_q rfl rfl rfl (Q_fieldAddr rfl rfl (fld rfl rfl)) ?_; refine S_load rfl rfl rfl rfl rfl ?_; refine L_fld (Rd.own m0) (ty rfl) rfl ?_; refine S_q rfl rfl rfl (Q_len rfl rfl rfl rfl rfl rfl) ?_; refine S_q rfl rfl rfl (Q_arith rfl rfl rfl rfl) ?_; refine S_q rfl rfl rfl (Q_fieldAddr rfl rfl (fld rfl rfl)) ?_; refine S_load rfl rfl rfl rfl rfl ?_; refine L_fld (Rd.own m0) (ty rfl) rfl ?_; refine S_q rfl rfl rfl (Q_lenStr rfl rfl rfl rfl rfl rfl) ?_; refine S_q rfl rfl rfl (Q_quoK rfl rfl rfl (by decide)) ?_; refine S_q rfl rfl rfl (Q_move rfl rfl) ?_; refine S_q rfl rfl rfl (Q_arith rfl rfl rfl rfl) ?_; refine S_q rfl rfl rfl (Q_arith rfl rfl rfl rfl) ?_; refine S_q rfl rfl rfl (Q_assign rfl rfl) ?_; refine OPS_nil ?_; refine then_n ?_; refine WP_seq ?_; refine R_region ?_; refine S_q rfl rfl rfl (Q_assign rfl rfl) ?_; refine OPS_nil ?_; refine then_n ?_; refine WP_block ?_)); rotate_left 1; (focus (refine WP_exit ?_; refine then_e ?_; refine roundF_e ?_; refine block_e ?_; refine block_n ?_; refine then_n ?_; refine R_region ?_; refine S_q rfl rfl rfl (Q_move rfl rfl) ?_; refine S_q rfl rfl rfl (Q_add rfl rfl rfl (by omega)) ?_; refine S_q rfl rfl rfl (Q_assign rfl rfl) ?_; refine OPS_nil ?_)); rotate_left 1))
        rotate_left 1
        · exact roundF_n (i + 1, _) (by simp only; omega) ⟨rfl, by simp only; omega⟩ (by repeat' (first | exact List.Sublist.refl _ | exact List.sublist_append_left _ _ | exact List.nil_sublist _ | apply List.Sublist.cons₂ | apply List.Sublist.cons)) (by repeat' (first | exact trivial | refine ⟨rfl, ?_⟩))
        have hl4 := sn9_3.le
        (refine WP_loopC (α := Nat × Int) [10, 9, 7, 6, 2, 1] (fun (s : Nat × Int) => m.names.length - s.1) (fun (s : Nat × Int) => [(11, .int .i64 (s.1 : Int)), (5, .int .i64 s.2)]) (fun hh (s : Nat × Int) => hh = h3 ∧ s.1 ≤ m.names.length) (0, _) ⟨_, _, rfl, ⟨_, _, rfl, ⟨_, _, rfl, ⟨_, _, rfl, ⟨_, _, rfl, ⟨_, _, rfl, rfl, rfl⟩, rfl⟩, rfl⟩, rfl⟩, rfl⟩, rfl⟩ (by repeat' (first | exact trivial | refine ⟨rfl, ?_⟩)) ?_ ?_)
        · exact ⟨rfl, Nat.zero_le _⟩
        clear n c9_2
        rintro h4 ⟨f, n⟩ _ ⟨rfl, hf⟩
        simp only at hf
        dsimp only
        by_cases hlt4 : f < m.names.length
        · obtain ⟨y, ey⟩ := get_of hlt4
          (focus (refine WP_seq ?_; refine WP_seq ?_; refine R_region ?_; refine S_q rfl rfl rfl (Q_move rfl rfl) ?_; refine S_q rfl rfl rfl (Q_fieldAddr rfl rfl (fld rfl rfl)) ?_; refine S_load rfl rfl rfl rfl rfl ?_; refine L_fld (Rd.own m0) (ty rfl) rfl ?_; refine S_q rfl rfl rfl (Q_len rfl rfl rfl rfl rfl rfl) ?_; refine S_q rfl rfl rfl (Q_cmp rfl rfl rfl rfl) ?_; refine S_q rfl rfl rfl (Q_move rfl rfl) ?_; refine S_gsplit rfl rfl rfl rfl (fun c11_1 => ?_) (fun c11_1 => ?_) <;> (first | (simp [*] at c11_1; done) | (try simp at c11_1)); refine S_gq rfl rfl rfl rfl rfl rfl (Q_move rfl rfl) ?_; refine S_gq rfl rfl rfl rfl rfl rfl (Q_move rfl rfl) ?_; refine S_gq rfl rfl rfl rfl rfl rfl (Q_cmp rfl rfl rfl rfl) ?_; refine S_q rfl rfl rfl (Q_pick_t rfl rfl rfl) ?_; refine OPS_nil ?_; refine then_n ?_; refine WP_cond rfl (fun c11_2 => ?_) (fun c11_2 => ?_) <;> (first | (simp [*] at c11_2; done) | (try simp at c11_2)); (focus (refine WP_skip ?_; refine then_n ?_; refine WP_seq ?_; refine WP_block ?_; refine R_region ?_; refine S_q rfl rfl rfl (Q_move rfl rfl) ?_; refine S_q rfl rfl rfl (Q_fieldAddr rfl rfl (fld rfl rfl)) ?_; refine S_load rfl rfl rfl rfl rfl ?_; refine L_fld (Rd.own m0) (ty rfl) rfl ?_; refine S_q rfl rfl rfl (Q_move rfl rfl) ?_; refine S_q rfl rfl rfl (Q_indexS (by assumption) (by assumption) rfl rfl rfl (elm rfl) rfl) ?_; refine S_load rfl rfl rfl rfl rfl ?_; refine L_el1 (by assumption) (by assumption) (ty rfl) ?_; rintro _ ⟨⟩; refine S_q rfl rfl rfl (Q_lenStr rfl rfl rfl rfl rfl rfl) ?_; refine S_q rfl rfl rfl (Q_quoK rfl rfl rfl (by decide)) ?_; refine S_q rfl rfl rfl (Q_move rfl rfl) ?_; refine S_q rfl rfl rfl (Q_arith rfl rfl rfl rfl) ?_; refine S_q rfl rfl rfl (Q_arith rfl rfl rfl rfl) ?_; refine S_q rfl rfl rfl (Q_assign rfl rfl) ?_; refine OPS_nil ?_; refine block_n ?_; refine then_n ?_; refine R_region ?_; refine S_q rfl rfl rfl (Q_move rfl rfl) ?_; refine S_q rfl rfl rfl (Q_add rfl rfl rfl (by omega)) ?_; refine S_q rfl rfl rfl (Q_assign rfl rfl) ?_; refine OPS_nil ?_)); rotate_left 1; (focus (refine WP_exit ?_; refine then_e ?_; refine roundF_e ?_; refine block_e ?_; refine block_n ?_; refine then_n ?_; refine R_region ?_; refine S_q rfl rfl rfl (Q_move rfl rfl) ?_; refine S_q rfl rfl rfl (Q_add rfl rfl rfl (by omega)) ?_; refine S_q rfl rfl rfl (Q_assign rfl rfl) ?_; refine OPS_nil ?_)); rotate_left 1))
          · exact roundF_n (f + 1, _) (by simp only; omega) ⟨rfl, by simp only; omega⟩ (by repeat' (first | exact List.Sublist.refl _ | exact List.sublist_append_left _ _ | exact List.nil_sublist _ | apply List.Sublist.cons₂ | apply List.Sublist.cons)) (by repeat' (first | exact trivial | refine ⟨rfl, ?_⟩))
          · exact roundF_n (g + 1, _) (by simp only; omega) ⟨rfl, by simp only; omega⟩ (by repeat' (first | exact List.Sublist.refl _ | exact List.sublist_append_left _ _ | exact List.nil_sublist _ | apply List.Sublist.cons₂ | apply List.Sublist.cons)) (by repeat' (first | exact trivial | refine ⟨rfl, ?_⟩))
        · have hge : f = m.names.length := by omega
          subst hge
          (focus (refine WP_seq ?_; refine WP_seq ?_; refine R_region ?_; refine S_q rfl rfl rfl (Q_move rfl rfl) ?_; refine S_q rfl rfl rfl (Q_fieldAddr rfl rfl (fld rfl rfl)) ?_; refine S_load rfl rfl rfl rfl rfl ?_; refine L_fld (Rd.own m0) (ty rfl) rfl ?_; refine S_q rfl rfl rfl (Q_len rfl rfl rfl rfl rfl rfl) ?_; refine S_q rfl rfl rfl (Q_cmp rfl rfl rfl rfl) ?_; refine S_q rfl rfl rfl (Q_move rfl rfl) ?_; refine S_gsplit rfl rfl rfl rfl (fun c12_1 => ?_) (fun c12_1 => ?_) <;> (first | (simp [*] at c12_1; done) | (try simp at c12_1)); refine S_gn rfl rfl rfl rfl rfl rfl ?_; refine S_gn rfl rfl rfl rfl rfl rfl ?_; refine S_gn rfl rfl rfl rfl rfl rfl ?_; refine S_q rfl rfl rfl (Q_pick_f rfl rfl rfl) ?_; refine OPS_nil ?_; refine then_n ?_; refine cond_f rfl ?_; refine WP_exit ?_; refine then_e ?_; refine roundF_e ?_; refine block_e ?_; refine block_n ?_; refine then_n ?_; refine R_region ?_; refine S_q rfl rfl rfl (Q_move rfl rfl) ?_; refine S_q rfl rfl rfl (Q_add rfl rfl rfl (by omega)) ?_; refine S_q rfl rfl rfl (Q_assign rfl rfl) ?_; refine OPS_nil ?_))
          exact roundF_n (g + 1, _) (by simp only; omega) ⟨rfl, by simp only; omega⟩ (by repeat' (first | exact List.Sublist.refl _ | exact List.sublist_append_left _ _ | exact List.nil_sublist _ | apply List.Sublist.cons₂ | apply List.Sublist.cons)) (by repeat' (first | exact trivial | refine ⟨rfl, ?_⟩))
      · have hge : g = k.methods.length := by omega
        subst hge
        (focus (refine WP_seq ?_; refine WP_seq ?_; refine R_region ?_; refine S_q rfl rfl rfl (Q_move rfl rfl) ?_; refine S_q rfl rfl rfl (Q_fieldAddr rfl rfl (fld rfl rfl)) ?_; refine S_load rfl rfl rfl rfl rfl ?_; refine L_fld (Rd.own m0) (ty rfl) rfl ?_; refine S_q rfl rfl rfl (Q_len rfl rfl rfl rfl rfl rfl) ?_; refine S_q rfl rfl rfl (Q_cmp rfl rfl rfl rfl) ?_; refine S_q rfl rfl rfl (Q_move rfl rfl) ?_; refine S_gsplit rfl rfl rfl rfl (fun c13_1 => ?_) (fun c13_1 => ?_) <;> (first | (simp [*] at c13_1; done) | (try simp at c13_1)); refine S_gn rfl rfl rfl rfl rfl rfl ?_; refine S_gn rfl rfl rfl rfl rfl rfl ?_; refine S_gn rfl rfl rfl rfl rfl rfl ?_; refine S_q rfl rfl rfl (Q_pick_f rfl rfl rfl) ?_; refine OPS_nil ?_; refine then_n ?_; refine cond_f rfl ?_; refine WP_exit ?_; refine then_e ?_; refine roundF_e ?_; refine block_e ?_; refine block_n ?_; refine then_n ?_; refine R_region ?_; refine S_q rfl rfl rfl (Q_move rfl rfl) ?_; refine S_q rfl rfl rfl (Q_add rfl rfl rfl (by omega)) ?_; refine S_q rfl rfl rfl (Q_assign rfl rfl) ?_; refine OPS_nil ?_))
        exact roundF_n (i + 1, _) (by simp only; omega) ⟨rfl, by simp only; omega⟩ (by repeat' (first | exact List.Sublist.refl _ | exact List.sublist_append_left _ _ | exact List.nil_sublist _ | apply List.Sublist.cons₂ | apply List.Sublist.cons)) (by repeat' (first | exact trivial | refine ⟨rfl, ?_⟩))
  · have hge : i = cs.length := by omega
    subst hge
    (focus (refine WP_seq ?_; refine WP_seq ?_; refine R_region ?_; refine S_q rfl rfl rfl (Q_move rfl rfl) ?_; refine S_q rfl rfl rfl (Q_fieldAddr rfl rfl (fld rfl rfl)) ?_; refine S_load rfl rfl rfl rfl rfl ?_; refine L_one (Rd.own m0) (ty rfl) ?_; refine S_q rfl rfl rfl (Q_len rfl rfl rfl rfl rfl rfl) ?_; refine S_q rfl rfl rfl (Q_cmp rfl rfl rfl rfl) ?_; refine S_q rfl rfl rfl (Q_move rfl rfl) ?_; refine S_gsplit rfl rfl rfl rfl (fun c14_1 => ?_) (fun c14_1 => ?_) <;> (first | (simp [*] at c14_1; done) | (try simp at c14_1)); refine S_gn rfl rfl rfl rfl rfl rfl ?_; refine S_gn rfl rfl rfl rfl rfl rfl ?_; refine S_gn rfl rfl rfl rfl rfl rfl ?_; refine S_q rfl rfl rfl (Q_pick_f rfl rfl rfl) ?_; refine OPS_nil ?_; refine then_n ?_; refine cond_f rfl ?_; refine WP_exit ?_; refine then_e ?_; refine roundF_e ?_; refine block_e ?_; refine then_n ?_; refine WP_seq ?_; refine R_region ?_; refine S_q rfl rfl rfl (Q_move rfl rfl) ?_; refine S_q rfl rfl rfl (Q_move rfl rfl) ?_; refine S_q rfl rfl rfl (Q_cmp rfl rfl rfl rfl) ?_; refine S_q rfl rfl rfl (Q_assign rfl rfl) ?_; refine OPS_nil ?_; refine then_n ?_; refine WP_ret ?_))
    refine pret (.inl rfl) rfl ⟨_, _, rfl, rfl, rfl⟩ ?_
    exact ⟨_, rfl⟩
end Go.Proofs.YtcfedojmmfbbeaaGreatDoor
/-
  CONTRACTS: the graph and the lines of a fresh heap.
-/
set_option linter.all false
namespace Go.Proofs.YtcfedojmmfbbeaaGreatDoor
open Go.Mesh Go Go.RowKit
set_option linter.all false
set_option maxRecDepth 100000
def frB (p : Option Addr) (n c : Nat) : List (Nat × AO) := [(13, .ro [.lit (.slice p n c), .mp 14, .mp 15, .lit (.slice none 0 0), .lit (.slice none 0 0), .lit (.slice none 0 0), .int .i64 0, .int .i64 0, .int .i64 0, .int .i64 0, .int .i64 0, .int .i64 0, .int .i64 0, .int .i64 0, .int .i64 0] 75), (14, .map []), (15, .map [])]
def sF (p : Option Addr) (n c : Nat) : St := ⟨.lf, 0, 30, addB (frB p n c) .lf, []⟩
/-- a heap as New makes it -/
def Fresh (h : Frag) (b : Nat) : Prop := ∃ b1 b2 p n c, h b = some (cells [.slice p n c, .map (some b1), .map (some b2), .slice none 0 0, .slice none 0 0, .slice none 0 0, .int .i64 0, .int .i64 0, .int .i64 0, .int .i64 0, .int .i64 0, .int .i64 0, .int .i64 0, .int .i64 0, .int .i64 0] 75) ∧ h b1 = some (mapObj itv []) ∧ h b2 = some (mapObj itv [])
theorem Fresh.up {h h' : Frag} {b : Nat} (x : Fresh h b) (hl : le h h') : Fresh h' b := by
  obtain ⟨b1, b2, p, n, c, h1, h2, h3⟩ := x
  exact ⟨b1, b2, p, n, c, hl _ _ h1, hl _ _ h2, hl _ _ h3⟩
theorem domF (p : Option Addr) (n c : Nat) : DomS (sF p n c) := fun k h => by
  have h : 30 ≤ k := h
  show (addB (frB p n c) .lf).get k = none
  rcases addB_get (frB p n c) .lf k with ⟨q1, _⟩ | ⟨p, q1, q2, q3⟩
  · rw [q1]; rfl
  · simp only [frB, List.mem_cons, List.not_mem_nil, or_false] at q1
    rcases q1 with rfl | rfl | rfl <;> (simp only at q2; omega)
theorem repF {h : Frag} {L : Hp} {w : World} {b b1 b2 : Nat} {p : Option Addr} {n c : Nat} (hg : GB h) (hw : Holds h L w)
    (h1 : h b = some (cells [.slice p n c, .map (some b1), .map (some b2), .slice none 0 0, .slice none 0 0, .slice none 0 0, .int .i64 0, .int .i64 0, .int .i64 0, .int .i64 0, .int .i64 0, .int .i64 0, .int .i64 0, .int .i64 0, .int .i64 0] 75)) (h2 : h b1 = some (mapObj itv [])) (h3 : h b2 = some (mapObj itv [])) :
    ∃ ρ, (∀ B, Rep B w.heap.size ρ (sF p n c) w) ∧ (∀ n a, ρ n = some a → n < 30) ∧ DenL ρ [.ptr 13 0] [ptr b 0] := by
  have hs := hw.sees.pers
  obtain ⟨o, hg⟩ := hg
  have e12 := (Array.getElem?_eq_some_iff.1 (hs _ _ hg)).1
  have e1 := (Array.getElem?_eq_some_iff.1 (hs _ _ h1)).1
  have e2 := (Array.getElem?_eq_some_iff.1 (hs _ _ h2)).1
  have e3 := (Array.getElem?_eq_some_iff.1 (hs _ _ h3)).1
  let ρ : Nm := ⟨fun n => if n < 13 then some n else if n = 13 then some b else if n = 14 then some b1 else if n = 15 then some b2 else none, fun n => none⟩
  have r13 : ρ 13 = some b := rfl
  have r14 : ρ 14 = some b1 := rfl
  have r15 : ρ 15 = some b2 := rfl
  have hρ : ∀ n a, ρ n = some a → n < 13 ∧ a = n ∨ n = 13 ∧ a = b ∨ n = 14 ∧ a = b1 ∨ n = 15 ∧ a = b2 := fun n a e => by
    by_cases q0 : n < 13
    · simp only [ρ, if_pos q0, Option.some.injEq] at e; exact .inl ⟨q0, e.symm⟩
    · by_cases q1 : n = 13
      · subst q1; rw [r13] at e; cases e; exact .inr (.inl ⟨rfl, rfl⟩)
      · by_cases q2 : n = 14
        · subst q2; rw [r14] at e; cases e; exact .inr (.inr (.inl ⟨rfl, rfl⟩))
        · by_cases q3 : n = 15
          · subst q3; rw [r15] at e; cases e; exact .inr (.inr (.inr ⟨rfl, rfl⟩))
          · simp only [ρ, if_neg q0, if_neg q1, if_neg q2, if_neg q3] at e; cases e
  have hlt : ∀ n a, ρ n = some a → n < 16 := fun n a e => by rcases hρ n a e with h | h | h | h <;> omega
  refine ⟨ρ, fun B => ⟨fun g hg => by simp [ρ, hg], fun n h1 h2 => ?_, Nat.le_refl _, Nat.le_refl _, fun k o a e r => ?_, fun n a h1 r => ?_, fun n a h1 r => ?_, fun n m o o' a h1 h2 e1 e2 r1 r2 => ?_⟩, fun n a e => by have := hlt n a e; omega, .cons (.ptr 0 r13) .nil⟩
  · have h1 : 30 ≤ n := h1
    have q1 : ¬ n < 13 := by omega
    have q2 : ¬ n = 13 := by omega
    have q3 : ¬ n = 14 := by omega
    have q4 : ¬ n = 15 := by omega
    simp [ρ, q1, q2, q3, q4]
  · have e : (addB (frB p n c) .lf).get k = some o := e
    rcases addB_get (frB p n c) .lf k with ⟨q1, _⟩ | ⟨q, q1, q2, q3⟩
    · rw [q1] at e; cases e
    · rw [q3] at e; cases e
      subst q2
      simp only [frB, List.mem_cons, List.not_mem_nil, or_false] at q1
      rcases q1 with rfl | rfl | rfl
      · rw [r13] at r; cases r
        refine ⟨_, hs _ _ h1, ?_⟩
        have := DenO.ro (ρ := ρ) (cs := [.lit (.slice p n c), .mp 14, .mp 15, .lit (.slice none 0 0), .lit (.slice none 0 0), .lit (.slice none 0 0), .int .i64 0, .int .i64 0, .int .i64 0, .int .i64 0, .int .i64 0, .int .i64 0, .int .i64 0, .int .i64 0, .int .i64 0]) 75 75 [] (0, 0) (.cons (.lit _) (.cons (.mp r14) (.cons (.mp r15) (.cons (.lit _) (.cons (.lit _) (.cons (.lit _) (.cons (.int _ _) (.cons (.int _ _) (.cons (.int _ _) (.cons (.int _ _) (.cons (.int _ _) (.cons (.int _ _) (.cons (.int _ _) (.cons (.int _ _) (.cons (.int _ _) .nil)))))))))))))))
        exact this
      · rw [r14] at r; cases r
        exact ⟨_, hs _ _ h2, .map (fs := []) (.nil 0)⟩
      · rw [r15] at r; cases r
        exact ⟨_, hs _ _ h3, .map (fs := []) (.nil 0)⟩
  · have := hlt n a r; have h1 : 30 ≤ n := h1; omega
  · rcases hρ n a r with ⟨q1, rfl⟩ | ⟨_, rfl⟩ | ⟨_, rfl⟩ | ⟨_, rfl⟩ <;> omega
  · have := hlt n a r1; have h1 : 30 ≤ n := h1; omega
theorem run8 (p : Option Addr) (n c : Nat) : (runF Tryz.prog 311 168 (cutM []) 60 (.fn 8 [] []) [.ptr 13 0] (sF p n c)).bind (fun r => cvv r.1) = some (.agg #[.slice none 0 0]) := by kernel_rfl
theorem run9 (p : Option Addr) (n c : Nat) : (runF Tryz.prog 311 168 (cutM []) 60 (.fn 9 [] []) [.ptr 13 0] (sF p n c)).bind (fun r => cvv r.1) = some (.slice none 0 0) := by kernel_rfl
theorem run_q {h : Frag} {g : FuncId} {fn : Func} {u : Value} {b b1 b2 : Nat} {p : Option Addr} {n c : Nat} (hg : GB h)
    (h1 : h b = some (cells [.slice p n c, .map (some b1), .map (some b2), .slice none 0 0, .slice none 0 0, .slice none 0 0, .int .i64 0, .int .i64 0, .int .i64 0, .int .i64 0, .int .i64 0, .int .i64 0, .int .i64 0, .int .i64 0, .int .i64 0] 75)) (h2 : h b1 = some (mapObj itv [])) (h3 : h b2 = some (mapObj itv []))
    (hP : Tryz.prog.funcs[g]? = some fn) (hb : fn.body.isNone = false) (e : (runF Tryz.prog 311 168 (cutM []) 60 (.fn g [] []) [.ptr 13 0] (sF p n c)).bind (fun r => cvv r.1) = some u) : PSpec Tryz.prog g #[ptr b 0] h (fun _ v => v = u) := by
  obtain ⟨⟨av, s1⟩, q1, q2⟩ := Option.bind_eq_some_iff.1 e
  have hM : MOk Tryz.prog (cutM []) := cutM_ok (fun p hp => by cases hp)
  have := run_f (h := h) (L := []) (g := g) (us := [ptr b 0]) hP hb hM (Nat.le_refl _) (domF p n c) (fun w hw => repF hg hw h1 h2 h3) q1
  exact FSpec.mono this fun h' L' v _ ⟨e1, e2, ρ, d⟩ => ⟨e2, cvv_ok d q2⟩
theorem graph_s {h : Frag} {b : Nat} (hg : GB h) (hf : Fresh h b) : PSpec Tryz.prog 8 #[ptr b 0] h (fun _ v => v = .agg #[.slice none 0 0]) := by
  obtain ⟨b1, b2, p, n, c, h1, h2, h3⟩ := hf
  exact run_q hg h1 h2 h3 Tryz.func8 rfl (run8 p n c)
theorem lines_s {h : Frag} {b : Nat} (hg : GB h) (hf : Fresh h b) : PSpec Tryz.prog 9 #[ptr b 0] h (fun _ v => v = .slice none 0 0) := by
  obtain ⟨b1, b2, p, n, c, h1, h2, h3⟩ := hf
  exact run_q hg h1 h2 h3 Tryz.func9 rfl (run9 p n c)
end Go.Proofs.YtcfedojmmfbbeaaGreatDoor
/-
  CONTRACTS: the law.
-/
set_option linter.all false
namespace Go.Mesh
open Go.RowKit
section
variable {P : Program} {r : Option Nat} {h : Frag} {L : Hp} {fr : Fr} {o : Oper}
theorem run_equal_ptr {w : World} {t e : TypeId} {p : Option Addr} (ht : P.underlying t = some (.pointer e)) : (Op.equal t (.pointer p) (.pointer none)).run P w = .ok p.isNone w := by
  unfold Op.equal
  rw [show Op.maxDepth = 9999 + 1 from rfl, Op.equalIn]
  cases p <;> simp [run_underlying' ht]
theorem Q_eqNilP {t u e : TypeId} {x y : Operand} {p : Option Addr} (hop : o.op = .binOp .eql t x y u) (hx : ev fr x = some (.pointer p)) (hy : ev fr y = some (.pointer none)) (ht : P.underlying t = some (.pointer e)) : QOP P o fr h L (.bool p.isNone) :=
  ⟨fun c => by rw [hop]; simp, fun a ha w _ => by
    unfold execOp; rw [hop]
    simp only [ha x _ hx, ha y _ hy, eqGuard, binOp, Sem.run_bind, run_equal_ptr ht]
    simp⟩
theorem Q_neNilP {t u e : TypeId} {x y : Operand} {p : Option Addr} (hop : o.op = .binOp .neq t x y u) (hx : ev fr x = some (.pointer p)) (hy : ev fr y = some (.pointer none)) (ht : P.underlying t = some (.pointer e)) : QOP P o fr h L (.bool (!p.isNone)) :=
  ⟨fun c => by rw [hop]; simp, fun a ha w _ => by
    unfold execOp; rw [hop]
    simp only [ha x _ hx, ha y _ hy, eqGuard, binOp, Sem.run_bind, run_equal_ptr ht]
    simp⟩
end
end Go.Mesh
namespace Go.Proofs.YtcfedojmmfbbeaaGreatDoor
open Go.Mesh Go Go.RowKit
set_option linter.all false
theorem awake_p {h : Frag} (x : Gl h) : PSpec Tryz.prog 4 #[] h (fun _ v => v = .bool true) :=
  FSpec.mono (awake_f (L := []) x) fun h' L' v _ ⟨_, e2, e3⟩ => ⟨e2, e3⟩
theorem new_ok {h : Frag} {cs : List Cls} {a : List Value} (hg : GB h) (hz : checkE cs = 0) (hc : CodeC 8796093022208 h cs a) : PSpec Tryz.prog 6 #[.agg a.toArray] h (fun h' v => ∃ b, v = .tuple #[ptr b 0, .int .i64 0] ∧ Fresh h' b) :=
  FSpec.mono (new_s hg hc) fun h' L' v _ ⟨e1, e2⟩ => ⟨e1, by
    rcases e2 with ⟨n, _⟩ | ⟨_, b, b1, b2, p, n, c, e3, e4, e5, e6⟩
    · exact absurd hz n
    · exact ⟨b, e3, ⟨b1, b2, p, n, c, e4, e5, e6⟩⟩⟩
theorem new_no {h : Frag} {cs : List Cls} {a : List Value} (hg : GB h) (hz : checkE cs ≠ 0) (hc : CodeC 8796093022208 h cs a) : PSpec Tryz.prog 6 #[.agg a.toArray] h (fun h' v => v = .tuple #[.pointer none, .int .i64 1]) :=
  FSpec.mono (new_s hg hc) fun h' L' v _ ⟨e1, e2⟩ => ⟨e1, by
    rcases e2 with ⟨n, e⟩ | ⟨n, _⟩
    · exact e
    · exact absurd n hz⟩
end Go.Proofs.YtcfedojmmfbbeaaGreatDoor
namespace Go.Proofs.YtcfedojmmfbbeaaGreatDoor
open Go.Mesh Go.RowKit
set_option maxRecDepth 100000
set_option linter.unusedVariables false
set_option maxHeartbeats 4000000
attribute [local irreducible] WP OPS ANY ANYo LG LV FSpec PSpec QOP OPc OPw thenQ blockQ roundQ roundF retQ retM Rd At SLB OS opsL opsV onm omost oargs oleast opops opush ocnt otext nameV validI effP effQ targL idxI operB existsB bigM bigC largeB badM badC checkE
attribute [local irreducible] Fresh
theorem law_s {h : Frag} {cs : List Cls} {a : List Value} (hg : GB h) (hl : Gl h) (hc : CodeC 8796093022208 h cs a) : PSpec Tryz.prog 3 #[.agg a.toArray] h (fun _ v => v = .bool true) := by
  obtain ⟨p, c, rfl, s1⟩ := hc
  refine pspec_of (vs := [.agg [Value.slice p cs.length c].toArray]) Tryz.func3 Tryz.ntmps3 rfl rfl ?_
  by_cases hz : checkE cs = 0
  · (focus (refine WP_seq ?_; refine R_region ?_; refine S_c rfl rfl rfl (C_box rfl rfl ?_); intro b0_1; refine S_q rfl rfl rfl (Q_assign rfl rfl) ?_; refine OPS_nil ?_; refine then_n ?_; refine WP_seq ?_; refine WP_seq ?_; refine R_region ?_; refine S_c rfl rfl rfl (C_callv (awake_p (by assumption)) rfl rfl rfl (cal rfl) ?_); refine S_q rfl rfl rfl (Q_not rfl rfl) ?_; refine S_q rfl rfl rfl (Q_move rfl rfl) ?_; refine S_gsplit rfl rfl rfl rfl (fun c0_2 => ?_) (fun c0_2 => ?_) <;> (first | (simp [*] at c0_2; done) | (try simp at c0_2)); refine S_gload rfl rfl rfl rfl rfl rfl rfl rfl ?_; refine L_agg (Rd.own m0) (ty rfl) (by first | rfl | assumption) ?_; refine S_gc rfl rfl rfl rfl rfl rfl (C_call0 (few_s ⟨_, _, rfl, by assumption⟩ _) rfl rfl ⟨_, _, rfl, ⟨_, _, rfl, rfl, rfl⟩, rfl⟩ (cal rfl) ?_); rintro _ ⟨bf0_3, rfl⟩; refine S_gq rfl rfl rfl rfl rfl rfl (Q_not rfl rfl) ?_; refine S_q rfl rfl rfl (Q_pick_f rfl rfl rfl) ?_; refine OPS_nil ?_; refine then_n ?_; refine WP_cond rfl (fun c0_4 => ?_) (fun c0_4 => ?_) <;> (first | (simp [*] at c0_4; done) | (try simp at c0_4)); (focus (refine WP_seq ?_; refine R_region ?_; refine S_c rfl rfl rfl (C_callv (awake_p (by assumption)) rfl rfl rfl (cal rfl) ?_); refine S_q rfl rfl rfl (Q_assign rfl rfl) ?_; refine OPS_nil ?_; refine then_n ?_; refine WP_ret ?_; refine then_r ?_)); rotate_left 1; (focus (refine WP_skip ?_; refine then_n ?_; refine WP_seq ?_; refine R_region ?_; refine S_load rfl rfl rfl rfl rfl ?_; refine L_agg (Rd.own m0) (ty rfl) (by first | rfl | assumption) ?_; refine S_c rfl rfl rfl (C_call (new_ok (by assumption) (by assumption) ⟨_, _, rfl, by assumption⟩) rfl rfl ⟨_, _, rfl, rfl, rfl⟩ (cal rfl) ?_); rintro h0_5 _ l0_5 ⟨b0_5, rfl, hf0_5⟩; replace hg := hg.up l0_5; replace s1 := s1.up l0_5; refine S_q rfl rfl rfl (Q_move rfl rfl) ?_; refine S_q rfl rfl rfl (Q_extract rfl rfl rfl) ?_; refine S_q rfl rfl rfl (Q_extract rfl rfl rfl) ?_; refine S_q rfl rfl rfl (Q_assign rfl rfl) ?_; refine S_q rfl rfl rfl (Q_assign rfl rfl) ?_; refine OPS_nil ?_; refine then_n ?_; refine WP_seq ?_; refine WP_seq ?_; refine R_region ?_; refine S_load rfl rfl rfl rfl rfl ?_; refine L_agg (Rd.own m0) (ty rfl) (by first | rfl | assumption) ?_; refine S_c rfl rfl rfl (C_call (check_s (by assumption) ⟨_, _, rfl, by assumption⟩) rfl rfl ⟨_, _, rfl, rfl, rfl⟩ (cal rfl) ?_); rintro h0_6 _ l0_6 rfl; replace hf0_5 := hf0_5.up l0_6; replace hg := hg.up l0_6; replace s1 := s1.up l0_6; refine S_q rfl rfl rfl (Q_cmp rfl rfl rfl rfl) ?_; refine OPS_nil ?_; refine then_n ?_; refine WP_cond rfl (fun c0_7 => ?_) (fun c0_7 => ?_) <;> (first | (simp [*] at c0_7; done) | (try simp at c0_7)); refine WP_skip ?_; refine then_n ?_; refine WP_seq ?_; refine R_region ?_; refine S_q rfl rfl rfl (Q_move rfl rfl) ?_; refine S_q rfl rfl rfl (Q_neNilP rfl rfl rfl rfl) ?_; refine S_q rfl rfl rfl (Q_move rfl rfl) ?_; refine S_gsplit rfl rfl rfl rfl (fun c0_8 => ?_) (fun c0_8 => ?_) <;> (first | (simp [*] at c0_8; done) | (try simp at c0_8)); refine S_gq rfl rfl rfl rfl rfl rfl (Q_move rfl rfl) ?_; refine S_gq rfl rfl rfl rfl rfl rfl (Q_cmp rfl rfl rfl rfl) ?_; refine S_q rfl rfl rfl (Q_pick_t rfl rfl rfl) ?_; refine S_q rfl rfl rfl (Q_move rfl rfl) ?_; refine S_gsplit rfl rfl rfl rfl (fun c0_9 => ?_) (fun c0_9 => ?_) <;> (first | (simp [*] at c0_9; done) | (try simp at c0_9)); refine S_gq rfl rfl rfl rfl rfl rfl (Q_move rfl rfl) ?_; refine S_gc rfl rfl rfl rfl rfl rfl (C_callv (graph_s (by assumption) (by assumption)) rfl rfl ⟨_, _, rfl, rfl, rfl⟩ (cal rfl) ?_); refine S_gq rfl rfl rfl rfl rfl rfl (Q_field1 rfl rfl (fld rfl rfl) (ty rfl) rfl) ?_; refine S_gq rfl rfl rfl rfl rfl rfl (Q_len rfl rfl rfl rfl rfl rfl) ?_; refine S_gq rfl rfl rfl rfl rfl rfl (Q_cmp rfl rfl rfl rfl) ?_; refine S_q rfl rfl rfl (Q_pick_t rfl rfl rfl) ?_; refine S_q rfl rfl rfl (Q_move rfl rfl) ?_; refine S_gsplit rfl rfl rfl rfl (fun c0_10 => ?_) (fun c0_10 => ?_) <;> (first | (simp [*] at c0_10; done) | (try simp at c0_10)); refine S_gq rfl rfl rfl rfl rfl rfl (Q_move rfl rfl) ?_; refine S_gc rfl rfl rfl rfl rfl rfl (C_callv (lines_s (by assumption) (by assumption)) rfl rfl ⟨_, _, rfl, rfl, rfl⟩ (cal rfl) ?_); refine S_gq rfl rfl rfl rfl rfl rfl (Q_len rfl rfl rfl rfl rfl rfl) ?_; refine S_gq rfl rfl rfl rfl rfl rfl (Q_cmp rfl rfl rfl rfl) ?_; refine S_q rfl rfl rfl (Q_pick_t rfl rfl rfl) ?_; refine S_q rfl rfl rfl (Q_assign rfl rfl) ?_; refine OPS_nil ?_; refine then_n ?_; refine WP_ret ?_)); rotate_left 1))
    all_goals
      refine pret (.inl rfl) rfl ⟨_, _, rfl, rfl, rfl⟩ ?_
      first | rfl | (simp [resOf]; done)
  · (focus (refine WP_seq ?_; refine R_region ?_; refine S_c rfl rfl rfl (C_box rfl rfl ?_); intro b1_1; refine S_q rfl rfl rfl (Q_assign rfl rfl) ?_; refine OPS_nil ?_; refine then_n ?_; refine WP_seq ?_; refine WP_seq ?_; refine R_region ?_; refine S_c rfl rfl rfl (C_callv (awake_p (by assumption)) rfl rfl rfl (cal rfl) ?_); refine S_q rfl rfl rfl (Q_not rfl rfl) ?_; refine S_q rfl rfl rfl (Q_move rfl rfl) ?_; refine S_gsplit rfl rfl rfl rfl (fun c1_2 => ?_) (fun c1_2 => ?_) <;> (first | (simp [*] at c1_2; done) | (try simp at c1_2)); refine S_gload rfl rfl rfl rfl rfl rfl rfl rfl ?_; refine L_agg (Rd.own m0) (ty rfl) (by first | rfl | assumption) ?_; refine S_gc rfl rfl rfl rfl rfl rfl (C_call0 (few_s ⟨_, _, rfl, by assumption⟩ _) rfl rfl ⟨_, _, rfl, ⟨_, _, rfl, rfl, rfl⟩, rfl⟩ (cal rfl) ?_); rintro _ ⟨bf1_3, rfl⟩; refine S_gq rfl rfl rfl rfl rfl rfl (Q_not rfl rfl) ?_; refine S_q rfl rfl rfl (Q_pick_f rfl rfl rfl) ?_; refine OPS_nil ?_; refine then_n ?_; refine WP_cond rfl (fun c1_4 => ?_) (fun c1_4 => ?_) <;> (first | (simp [*] at c1_4; done) | (try simp at c1_4)); (focus (refine WP_seq ?_; refine R_region ?_; refine S_c rfl rfl rfl (C_callv (awake_p (by assumption)) rfl rfl rfl (cal rfl) ?_); refine S_q rfl rfl rfl (Q_assign rfl rfl) ?_; refine OPS_nil ?_; refine then_n ?_; refine WP_ret ?_; refine then_r ?_)); rotate_left 1; (focus (refine WP_skip ?_; refine then_n ?_; refine WP_seq ?_; refine R_region ?_; refine S_load rfl rfl rfl rfl rfl ?_; refine L_agg (Rd.own m0) (ty rfl) (by first | rfl | assumption) ?_; refine S_c rfl rfl rfl (C_call (new_no (by assumption) (by assumption) ⟨_, _, rfl, by assumption⟩) rfl rfl ⟨_, _, rfl, rfl, rfl⟩ (cal rfl) ?_); rintro h1_5 _ l1_5 rfl; replace hg := hg.up l1_5; replace s1 := s1.up l1_5; refine S_q rfl rfl rfl (Q_move rfl rfl) ?_; refine S_q rfl rfl rfl (Q_extract rfl rfl rfl) ?_; refine S_q rfl rfl rfl (Q_extract rfl rfl rfl) ?_; refine S_q rfl rfl rfl (Q_assign rfl rfl) ?_; refine S_q rfl rfl rfl (Q_assign rfl rfl) ?_; refine OPS_nil ?_; refine then_n ?_; refine WP_seq ?_; refine WP_seq ?_; refine R_region ?_; refine S_load rfl rfl rfl rfl rfl ?_; refine L_agg (Rd.own m0) (ty rfl) (by first | rfl | assumption) ?_; refine S_c rfl rfl rfl (C_call (check_s (by assumption) ⟨_, _, rfl, by assumption⟩) rfl rfl ⟨_, _, rfl, rfl, rfl⟩ (cal rfl) ?_); rintro h1_6 _ l1_6 rfl; replace hg := hg.up l1_6; replace s1 := s1.up l1_6; refine S_q rfl rfl rfl (Q_cmp rfl rfl rfl rfl) ?_; refine OPS_nil ?_; refine then_n ?_; refine WP_cond rfl (fun c1_7 => ?_) (fun c1_7 => ?_) <;> (first | (simp [*] at c1_7; done) | (try simp at c1_7)); refine WP_seq ?_; refine R_region ?_; refine S_q rfl rfl rfl (Q_move rfl rfl) ?_; refine S_q rfl rfl rfl (Q_eqNilP rfl rfl rfl rfl) ?_; refine S_q rfl rfl rfl (Q_move rfl rfl) ?_; refine S_gsplit rfl rfl rfl rfl (fun c1_8 => ?_) (fun c1_8 => ?_) <;> (first | (simp [*] at c1_8; done) | (try simp at c1_8)); refine S_gq rfl rfl rfl rfl rfl rfl (Q_move rfl rfl) ?_; refine S_gq rfl rfl rfl rfl rfl rfl (Q_cmp rfl rfl rfl rfl) ?_; refine S_q rfl rfl rfl (Q_pick_t rfl rfl rfl) ?_; refine S_q rfl rfl rfl (Q_assign rfl rfl) ?_; refine OPS_nil ?_; refine then_n ?_; refine WP_ret ?_; refine then_r ?_)); rotate_left 1))
    all_goals
      refine pret (.inl rfl) rfl ⟨_, _, rfl, rfl, rfl⟩ ?_
      first | rfl | (simp [resOf]; done)
end Go.Proofs.YtcfedojmmfbbeaaGreatDoor
