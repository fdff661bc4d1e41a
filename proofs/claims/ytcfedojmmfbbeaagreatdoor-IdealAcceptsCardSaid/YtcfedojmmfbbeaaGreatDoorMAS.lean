/-
  Part MAS of the proof's ground: Id, Ie, If, Ig.
-/
import Derived.Test.YtcfedojmmfbbeaaGreatDoorMAR
/-
  CONTRACTS: an instruction of a method exists; one that does not, found.
-/
set_option linter.all false
namespace Go.Proofs.YtcfedojmmfbbeaaGreatDoor
open Go.Mesh Go.RowKit
set_option maxRecDepth 100000
set_option linter.unusedVariables false
set_option maxHeartbeats 4000000
attribute [local irreducible] WP OPS ANY ANYo LG LV FSpec PSpec QOP OPc OPw thenQ blockQ roundQ roundF retQ retM Rd At SLB OS opsL opsV onm omost oargs oleast opops opush ocnt otext nameV validI effP effQ targL idxI
def operB (cs : List Cls) (k : Cls) (m : Meth) (x : Ins) : Nat → Bool
  | 0 => o1 m x
  | 1 => o2 m x
  | 2 => o3 cs x
  | _ => o4 k x
def opOk (cs : List Cls) (k : Cls) (m : Meth) (x : Ins) (j : Nat) : Bool := !decide (x.op ∈ opsN j) || operB cs k m x j
def existsB (cs : List Cls) (k : Cls) (m : Meth) (x : Ins) : Bool := validI x && ([0, 1, 2, 3] : List Nat).all (opOk cs k m x)
theorem valid_least {x : Ins} (h : validI x = true) (ho : x.op ∈ opsN 2) : 1 ≤ x.a := by
  simp only [validI, Bool.and_eq_true, decide_eq_true_eq] at h
  obtain ⟨_, ⟨⟨h1, _⟩, _⟩, _⟩ := h
  simp only [opsN, List.mem_cons, List.not_mem_nil, or_false] at ho
  rcases ho with e | e
  · rw [e, oleast10] at h1; exact h1
  · rw [e, oleast11] at h1; exact h1
theorem oper_s {h : Frag} {cs : List Cls} {k : Cls} {m : Meth} {a b c : List Value} (hc : CodeC 8796093022208 h cs a) (hk : ClsC 8796093022208 h k b) (hm : MethC 8796093022208 h m c) {x : Ins} (hv : validI x = true) {j : Nat} (hj : j < 4) (ho : x.op ∈ opsN j) : PSpec Tryz.prog (65 + j) ([Value.agg a.toArray, .agg b.toArray, .agg c.toArray, .agg (insc x).toArray] ++ []).toArray h (fun _ v => v = .bool (operB cs k m x j)) := by
  match j, hj with
  | 0, _ => exact oper1_s hc hk hm x
  | 1, _ => exact oper2_s hc hk hm x
  | 2, _ => exact oper3_s hc hk hm x (valid_least hv ho)
  | 3, _ => exact oper4_s hc hk hm x
theorem oper_cal {j : Nat} (hj : j < 4) : callOk Tryz.prog (65 + j) = true := by
  match j, hj with
  | 0, _ => exact cal rfl
  | 1, _ => exact cal rfl
  | 2, _ => exact cal rfl
  | 3, _ => exact cal rfl
theorem all_drop {α : Type} {p : α → Bool} {xs : List α} {k : Nat} {x : α} (hx : xs[k]? = some x) : (xs.drop k).all p = (p x && (xs.drop (k + 1)).all p) := by rw [drop_get hx]; rfl
theorem any_drop {α : Type} {p : α → Bool} {xs : List α} {k : Nat} {x : α} (hx : xs[k]? = some x) : (xs.drop k).any p = (p x || (xs.drop (k + 1)).any p) := by rw [drop_get hx]; rfl
attribute [local irreducible] operB existsB
theorem exists_s {h : Frag} {cs : List Cls} {k : Cls} {m : Meth} {a b c : List Value} (hg : GB h) (hc : CodeC 8796093022208 h cs a) (hk : ClsC 8796093022208 h k b) (hm : MethC 8796093022208 h m c) (x : Ins) : PSpec Tryz.prog 15 #[.agg a.toArray, .agg b.toArray, .agg c.toArray, .agg (insc x).toArray] h (fun _ v => v = .bool (existsB cs k m x)) := by
  obtain ⟨p, c, rfl, s1⟩ := hc
  obtain ⟨s, pf, qf, pm, qm, rfl, s2, s3⟩ := hk
  obtain ⟨i1, i2, s', p1, q1, p2, q2, rfl, s4, s5⟩ := hm
  refine pspec_of (vs := [.agg [Value.slice p cs.length c].toArray, .agg [Value.string s, .bool k.actor, .slice pf k.fields.length qf, .slice pm k.methods.length qm].toArray, .agg [Value.string s', .int .i64 m.params, .int .i64 m.locals, .slice p1 m.code.length q1, .slice p2 m.names.length q2].toArray, .agg (insc x).toArray]) Tryz.func15 Tryz.ntmps15 rfl rfl ?_
  by_cases hv : validI x = true
  · (focus (refine WP_seq ?_; refine R_region ?_; refine S_c rfl rfl rfl (C_box rfl rfl ?_); intro b0_1; refine S_c rfl rfl rfl (C_box rfl rfl ?_); intro b0_2; refine S_c rfl rfl rfl (C_box rfl rfl ?_); intro b0_3; refine S_c rfl rfl rfl (C_box rfl rfl ?_); intro b0_4; refine S_q rfl rfl rfl (Q_assign rfl rfl) ?_; refine OPS_nil ?_; refine then_n ?_; refine WP_seq ?_; refine WP_seq ?_; refine R_region ?_; refine S_load rfl rfl rfl rfl rfl ?_; refine L_agg (Rd.own m0) (ty rfl) (by first | rfl | assumption) ?_; refine S_c rfl rfl rfl (C_callv (valid_s (by assumption) _) rfl rfl ⟨_, _, rfl, rfl, rfl⟩ (cal rfl) ?_); refine S_q rfl rfl rfl (Q_not rfl rfl) ?_; refine OPS_nil ?_; refine then_n ?_; refine WP_cond rfl (fun c0_5 => ?_) (fun c0_5 => ?_) <;> (first | (simp [*] at c0_5; done) | (try simp at c0_5)); refine WP_skip ?_; refine then_n ?_; refine WP_seq ?_; refine WP_seq ?_; refine R_region ?_; refine S_c rfl rfl rfl (C_call (operands_s _) rfl rfl rfl (cal rfl) ?_); rintro h0_6 _ l0_6 ⟨pt0_6, qt0_6, rfl, st0_6⟩; replace hg := hg.up l0_6; replace s1 := s1.up l0_6; replace s2 := s2.up l0_6; replace s3 := s3.up l0_6; replace s4 := s4.up l0_6; replace s5 := s5.up l0_6; refine S_q rfl rfl rfl (Q_len rfl rfl rfl rfl rfl rfl) ?_; refine S_q rfl rfl rfl (Q_move rfl rfl) ?_; refine OPS_nil ?_; refine then_n ?_; refine WP_block ?_))
    have hc : CodeC 8796093022208 h0_6 cs [.slice p cs.length c] := ⟨_, _, rfl, s1⟩
    have hk : ClsC 8796093022208 h0_6 k [.string s, .bool k.actor, .slice pf k.fields.length qf, .slice pm k.methods.length qm] := ⟨_, _, _, _, _, rfl, s2, s3⟩
    have hm : MethC 8796093022208 h0_6 m [.string s', .int .i64 m.params, .int .i64 m.locals, .slice p1 m.code.length q1, .slice p2 m.names.length q2] := ⟨i1, i2, _, _, _, _, _, rfl, s4, s5⟩
    (refine WP_loopC (α := Nat) [15, 14, 7, 6, 5, 4] (fun (k' : Nat) => 4 - k') (fun (k' : Nat) => [(16, .int .i64 k')]) (fun hh (k' : Nat) => hh = h0_6 ∧ k' ≤ 4 ∧ ((([0, 1, 2, 3] : List Nat).drop k').all (opOk cs k m x)) = existsB cs k m x) 0 ⟨_, _, rfl, ⟨_, _, rfl, ⟨_, _, rfl, ⟨_, _, rfl, ⟨_, _, rfl, ⟨_, _, rfl, rfl, rfl⟩, rfl⟩, rfl⟩, rfl⟩, rfl⟩, rfl⟩ (by repeat' (first | exact trivial | refine ⟨rfl, ?_⟩)) ?_ ?_)
    · exact ⟨rfl, Nat.zero_le _, by rw [existsB, hv]; rfl⟩
    rintro h1 k' _ ⟨rfl, hk', ht⟩
    by_cases hlt : k' < 4
    · obtain ⟨j, ej⟩ := get_of (xs := ([0, 1, 2, 3] : List Nat)) (k := k') hlt
      have had := all_drop (p := opOk cs k m x) ej
      have hj4 : j < 4 := by have := List.mem_of_getElem? ej; simp at this; omega
      (focus (refine WP_seq ?_; refine R_region ?_; refine S_q rfl rfl rfl (Q_cmp rfl rfl rfl rfl) ?_; refine OPS_nil ?_; refine then_n ?_; refine WP_seq ?_; refine WP_cond rfl (fun c2_1 => ?_) (fun c2_1 => ?_) <;> (first | (simp [*] at c2_1; done) | (try simp at c2_1)); (focus (refine WP_skip ?_; refine then_n ?_; refine WP_seq ?_; refine WP_block ?_; refine WP_seq ?_; refine R_region ?_; refine S_q rfl rfl rfl (Q_indexS (by assumption) (by assumption) rfl rfl rfl (elm rfl) rfl) ?_; refine S_load rfl rfl rfl rfl rfl ?_; refine L_elA (by assumption) (by assumption) (ty rfl) ?_; rintro _ _ _ ⟨po2_2, qo2_2, rfl, so2_2⟩; refine S_c rfl rfl rfl (C_alloc rfl (zer rfl) ?_); intro b2_3; refine S_w0 rfl rfl (W_all rfl rfl rfl (ty rfl) u0 (by first | rfl | assumption) (by first | rfl | assumption) (by first | rfl | assumption | exact ones_sub (by assumption) _ _) ?_); refine OPS_nil ?_; refine then_n ?_; refine WP_seq ?_; refine R_region ?_; refine S_q rfl rfl rfl (Q_fieldAddr rfl rfl (fld rfl rfl)) ?_; refine S_load rfl rfl rfl rfl rfl ?_; refine L_fld (Rd.own m0) (ty rfl) rfl ?_; refine S_q rfl rfl rfl (Q_fieldAddr rfl rfl (fld rfl rfl)) ?_; refine S_load rfl rfl rfl rfl rfl ?_; refine L_fld (Rd.own m1) (ty rfl) rfl ?_; refine S_c rfl rfl rfl (C_callv (contains_s (by assumption) _) rfl rfl ⟨_, _, rfl, ⟨_, _, rfl, rfl, rfl⟩, rfl⟩ (cal rfl) ?_); refine S_q rfl rfl rfl (Q_move rfl rfl) ?_; refine S_gsplit rfl rfl rfl rfl (fun c2_4 => ?_) (fun c2_4 => ?_) <;> (first | (simp [*] at c2_4; done) | (try simp at c2_4)); (focus (refine S_gq rfl rfl rfl rfl rfl rfl (Q_fieldAddr rfl rfl (fld rfl rfl)) ?_; refine S_gload rfl rfl rfl rfl rfl rfl rfl rfl ?_; refine L_fld (Rd.own m0) (ty rfl) rfl ?_; refine S_gload rfl rfl rfl rfl rfl rfl rfl rfl ?_; refine L_agg (Rd.own m4) (ty rfl) (by first | rfl | assumption) ?_; refine S_gload rfl rfl rfl rfl rfl rfl rfl rfl ?_; refine L_agg (Rd.own m3) (ty rfl) (by first | rfl | assumption) ?_; refine S_gload rfl rfl rfl rfl rfl rfl rfl rfl ?_; refine L_agg (Rd.own m2) (ty rfl) (by first | rfl | assumption) ?_; refine S_gload rfl rfl rfl rfl rfl rfl rfl rfl ?_; refine L_agg (Rd.own m1) (ty rfl) (by first | rfl | assumption) ?_)); rotate_left 1; (focus (refine S_gn rfl rfl rfl rfl rfl rfl ?_; refine S_gn rfl rfl rfl rfl rfl rfl ?_; refine S_gn rfl rfl rfl rfl rfl rfl ?_; refine S_gn rfl rfl rfl rfl rfl rfl ?_; refine S_gn rfl rfl rfl rfl rfl rfl ?_; refine S_gn rfl rfl rfl rfl rfl rfl ?_; refine S_gn rfl rfl rfl rfl rfl rfl ?_; refine S_gn rfl rfl rfl rfl rfl rfl ?_; refine S_q rfl rfl rfl (Q_pick_f rfl rfl rfl) ?_; refine OPS_nil ?_; refine then_n ?_; refine cond_f rfl ?_; refine WP_skip ?_; refine block_n ?_; refine then_n ?_; refine R_region ?_; refine S_q rfl rfl rfl (Q_add rfl rfl rfl (by omega)) ?_; refine S_q rfl rfl rfl (Q_move rfl rfl) ?_; refine OPS_nil ?_)); rotate_left 1)); rotate_left 2; (focus (exfalso; omega))))
      · refine S_gc rfl rfl rfl rfl rfl rfl (C_callCv (cap := []) (oper_s hc hk hm hv hj4 c2_4) rfl rfl rfl ⟨_, _, rfl, ⟨_, _, rfl, ⟨_, _, rfl, ⟨_, _, rfl, rfl, rfl⟩, rfl⟩, rfl⟩, rfl⟩ (oper_cal hj4) ?_)
        (focus (refine S_gq rfl rfl rfl rfl rfl rfl (Q_not rfl rfl) ?_; refine S_q rfl rfl rfl (Q_pick_t rfl rfl rfl) ?_; refine OPS_nil ?_; refine then_n ?_; refine WP_cond rfl (fun c3_1 => ?_) (fun c3_1 => ?_) <;> (first | (simp [*] at c3_1; done) | (try simp at c3_1)); (focus (refine WP_seq ?_; refine R_region ?_; refine S_q rfl rfl rfl (Q_assign rfl rfl) ?_; refine OPS_nil ?_; refine then_n ?_; refine WP_ret ?_; refine block_r ?_; refine then_r ?_; refine roundF_r ?_; refine block_r ?_; refine then_r ?_)); rotate_left 1; (focus (refine WP_skip ?_; refine block_n ?_; refine then_n ?_; refine R_region ?_; refine S_q rfl rfl rfl (Q_add rfl rfl rfl (by omega)) ?_; refine S_q rfl rfl rfl (Q_move rfl rfl) ?_; refine OPS_nil ?_)); rotate_left 1))
        · refine pret (.inl rfl) rfl ⟨_, _, rfl, rfl, rfl⟩ ?_
          rw [← ht, had]; simp_all [resOf, opOk]
        · refine roundF_n (k' + 1) (by omega) ⟨rfl, by omega, ?_⟩ (by repeat' (first | exact List.Sublist.refl _ | exact List.sublist_append_left _ _ | exact List.nil_sublist _ | apply List.Sublist.cons₂ | apply List.Sublist.cons)) (by repeat' (first | exact trivial | refine ⟨rfl, ?_⟩))
          rw [← ht, had]; simp_all [opOk]
      · refine roundF_n (k' + 1) (by omega) ⟨rfl, by omega, ?_⟩ (by repeat' (first | exact List.Sublist.refl _ | exact List.sublist_append_left _ _ | exact List.nil_sublist _ | apply List.Sublist.cons₂ | apply List.Sublist.cons)) (by repeat' (first | exact trivial | refine ⟨rfl, ?_⟩))
        rw [← ht, had]; simp_all [opOk]
    · have hge : k' = 4 := by omega
      subst hge
      (focus (refine WP_seq ?_; refine R_region ?_; refine S_q rfl rfl rfl (Q_cmp rfl rfl rfl rfl) ?_; refine OPS_nil ?_; refine then_n ?_; refine WP_seq ?_; refine cond_f rfl ?_; refine WP_exit ?_; refine then_e ?_; refine roundF_e ?_; refine block_e ?_; refine then_n ?_; refine WP_seq ?_; refine R_region ?_; refine S_q rfl rfl rfl (Q_assign rfl rfl) ?_; refine OPS_nil ?_; refine then_n ?_; refine WP_ret ?_))
      refine pret (.inl rfl) rfl ⟨_, _, rfl, rfl, rfl⟩ ?_
      rw [← ht]; simp [resOf]
  · (focus (refine WP_seq ?_; refine R_region ?_; refine S_c rfl rfl rfl (C_box rfl rfl ?_); intro b5_1; refine S_c rfl rfl rfl (C_box rfl rfl ?_); intro b5_2; refine S_c rfl rfl rfl (C_box rfl rfl ?_); intro b5_3; refine S_c rfl rfl rfl (C_box rfl rfl ?_); intro b5_4; refine S_q rfl rfl rfl (Q_assign rfl rfl) ?_; refine OPS_nil ?_; refine then_n ?_; refine WP_seq ?_; refine WP_seq ?_; refine R_region ?_; refine S_load rfl rfl rfl rfl rfl ?_; refine L_agg (Rd.own m0) (ty rfl) (by first | rfl | assumption) ?_; refine S_c rfl rfl rfl (C_callv (valid_s (by assumption) _) rfl rfl ⟨_, _, rfl, rfl, rfl⟩ (cal rfl) ?_); refine S_q rfl rfl rfl (Q_not rfl rfl) ?_; refine OPS_nil ?_; refine then_n ?_; refine WP_cond rfl (fun c5_5 => ?_) (fun c5_5 => ?_) <;> (first | (simp [*] at c5_5; done) | (try simp at c5_5)); refine WP_seq ?_; refine R_region ?_; refine S_q rfl rfl rfl (Q_assign rfl rfl) ?_; refine OPS_nil ?_; refine then_n ?_; refine WP_ret ?_; refine then_r ?_))
    refine pret (.inl rfl) rfl ⟨_, _, rfl, rfl, rfl⟩ ?_
    simp [resOf, existsB, hv]
theorem odd_s {h : Frag} {cs : List Cls} {k : Cls} {m : Meth} {a b c : List Value} {b1 b2 b3 : Nat} (hg : GB h) (hc : CodeC 8796093022208 h cs a) (hk : ClsC 8796093022208 h k b) (hm : MethC 8796093022208 h m c) (h1 : At h b1 0 a) (h2 : At h b2 0 b) (h3 : At h b3 0 c) (x : Ins) : PSpec Tryz.prog 14 ([Value.agg (insc x).toArray] ++ [ptr b1 0, ptr b2 0, ptr b3 0]).toArray h (fun _ v => v = .bool (!existsB cs k m x)) := by
  obtain ⟨p, c, rfl, s1⟩ := hc
  obtain ⟨s, pf, qf, pm, qm, rfl, s2, s3⟩ := hk
  obtain ⟨i1, i2, s', p1, q1, p2, q2, rfl, s4, s5⟩ := hm
  refine pspec_of (vs := [.agg (insc x).toArray, ptr b1 0, ptr b2 0, ptr b3 0]) Tryz.func14 Tryz.ntmps14 rfl rfl ?_
  (focus (refine WP_seq ?_; refine R_region ?_; refine S_c rfl rfl rfl (C_box rfl rfl ?_); intro b0_1; refine S_q rfl rfl rfl (Q_assign rfl rfl) ?_; refine OPS_nil ?_; refine then_n ?_; refine WP_seq ?_; refine R_region ?_; refine S_load rfl rfl rfl rfl rfl ?_; refine L_agg (Rd.pers (by assumption)) (ty rfl) (by first | rfl | assumption) ?_; refine S_load rfl rfl rfl rfl rfl ?_; refine L_agg (Rd.pers (by assumption)) (ty rfl) (by first | rfl | assumption) ?_; refine S_load rfl rfl rfl rfl rfl ?_; refine L_agg (Rd.pers (by assumption)) (ty rfl) (by first | rfl | assumption) ?_; refine S_load rfl rfl rfl rfl rfl ?_; refine L_agg (Rd.own m0) (ty rfl) (by first | rfl | assumption) ?_; refine S_c rfl rfl rfl (C_callv (exists_s (by assumption) ⟨_, _, rfl, by assumption⟩ ⟨_, _, _, _, _, rfl, by assumption, by assumption⟩ ⟨by assumption, by assumption, _, _, _, _, _, rfl, by assumption, by assumption⟩ _) rfl rfl ⟨_, _, rfl, ⟨_, _, rfl, ⟨_, _, rfl, ⟨_, _, rfl, rfl, rfl⟩, rfl⟩, rfl⟩, rfl⟩ (cal rfl) ?_); refine S_q rfl rfl rfl (Q_not rfl rfl) ?_; refine S_q rfl rfl rfl (Q_assign rfl rfl) ?_; refine OPS_nil ?_; refine then_n ?_; refine WP_ret ?_))
  refine pret (.inl rfl) rfl ⟨_, _, rfl, rfl, rfl⟩ ?_
  simp [resOf]
theorem idxFn_s {α : Type} {C : CR α} {h : Frag} {a : Value} {xs : List α} {g : Nat} {cap : List Value} {p : α → Bool} (hs : SL h 3 C a xs) (hcal : callOk Tryz.prog g = true)
    (hfn : ∀ x vs, vs.length = 3 → ones vs = true → C h x vs → PSpec Tryz.prog g ([Value.agg vs.toArray] ++ cap).toArray h (fun _ v => v = .bool (p x))) :
    PSpec Tryz.prog 32 #[a, .func (.func g) #[] cap.toArray] h (fun _ v => v = .int .i64 (idxI (xs.findIdx? p))) := by
  have hl := hs.le
  refine pspec_of (vs := [a, .func (.func g) #[] cap.toArray]) Tryz.func32 Tryz.ntmps32 rfl rfl ?_
  (focus (refine WP_seq ?_; refine R_region ?_; refine S_q rfl rfl rfl (Q_assign rfl rfl) ?_; refine OPS_nil ?_; refine then_n ?_; refine WP_seq ?_; refine WP_seq ?_; refine R_region ?_; refine S_q rfl rfl rfl (Q_move rfl rfl) ?_; refine S_q rfl rfl rfl (Q_lenS rfl rfl rfl rfl rfl rfl (by assumption)) ?_; refine S_q rfl rfl rfl (Q_move rfl rfl) ?_; refine OPS_nil ?_; refine then_n ?_; refine WP_block ?_))
  (refine WP_loopC (α := Nat) [7, 0, 1] (fun (k : Nat) => xs.length - k) (fun (k : Nat) => [(8, .int .i64 k)]) (fun hh (k : Nat) => hh = h ∧ k ≤ xs.length ∧ ((xs.drop k).findIdx? p).map (· + k) = xs.findIdx? p) 0 ⟨_, _, rfl, ⟨_, _, rfl, ⟨_, _, rfl, rfl, rfl⟩, rfl⟩, rfl⟩ (by repeat' (first | exact trivial | refine ⟨rfl, ?_⟩)) ?_ ?_)
  · exact ⟨rfl, Nat.zero_le _, by simp⟩
  rintro h1 k _ ⟨rfl, hk, ht⟩
  by_cases hlt : k < xs.length
  · obtain ⟨x, ex⟩ := get_of hlt
    have hod := findIdx_drop (p := p) ex
    rw [ht] at hod
    (focus (refine WP_seq ?_; refine R_region ?_; refine S_q rfl rfl rfl (Q_cmp rfl rfl rfl rfl) ?_; refine OPS_nil ?_; refine then_n ?_; refine WP_seq ?_; refine WP_cond rfl (fun c2_1 => ?_) (fun c2_1 => ?_) <;> (first | (simp [*] at c2_1; done) | (try simp at c2_1)); refine WP_skip ?_; refine then_n ?_; refine WP_seq ?_; refine WP_block ?_; refine WP_seq ?_; refine R_region ?_; refine S_q rfl rfl rfl (Q_move rfl rfl) ?_; refine S_q rfl rfl rfl (Q_assign rfl rfl) ?_; refine OPS_nil ?_; refine then_n ?_; refine WP_seq ?_; refine R_region ?_; refine S_q rfl rfl rfl (Q_move rfl rfl) ?_; refine S_q rfl rfl rfl (Q_move rfl rfl) ?_; refine S_q rfl rfl rfl (Q_move rfl rfl) ?_; refine S_q rfl rfl rfl (Q_indexS (by assumption) (by assumption) rfl rfl rfl (elm rfl) rfl) ?_; refine S_load rfl rfl rfl rfl rfl ?_; refine L_elA (by assumption) (by assumption) (ty rfl) ?_))
    rintro vs e1 e2 e3
    (focus (refine S_c rfl rfl rfl (C_callCv (hfn _ _ (by assumption) (by assumption) (by assumption)) rfl rfl rfl ⟨_, _, rfl, rfl, rfl⟩ hcal ?_); refine OPS_nil ?_; refine then_n ?_; refine WP_cond rfl (fun c3_1 => ?_) (fun c3_1 => ?_) <;> (first | (simp [*] at c3_1; done) | (try simp at c3_1)); (focus (refine WP_seq ?_; refine R_region ?_; refine S_q rfl rfl rfl (Q_move rfl rfl) ?_; refine S_q rfl rfl rfl (Q_assign rfl rfl) ?_; refine OPS_nil ?_; refine then_n ?_; refine WP_ret ?_; refine block_r ?_; refine then_r ?_; refine roundF_r ?_; refine block_r ?_; refine then_r ?_)); rotate_left 1; (focus (refine WP_skip ?_; refine block_n ?_; refine then_n ?_; refine R_region ?_; refine S_q rfl rfl rfl (Q_add rfl rfl rfl (by omega)) ?_; refine S_q rfl rfl rfl (Q_move rfl rfl) ?_; refine OPS_nil ?_)); rotate_left 1))
    · refine pret (.inl rfl) rfl ⟨_, _, rfl, rfl, rfl⟩ ?_
      rw [hod]; simp_all [resOf, idxI]
    · refine roundF_n (k + 1) (by omega) ⟨rfl, by omega, ?_⟩ (by repeat' (first | exact List.Sublist.refl _ | exact List.sublist_append_left _ _ | exact List.nil_sublist _ | apply List.Sublist.cons₂ | apply List.Sublist.cons)) (by repeat' (first | exact trivial | refine ⟨rfl, ?_⟩))
      rw [hod]; simp_all
  · have hge : k = xs.length := by omega
    subst hge
    (focus (refine WP_seq ?_; refine R_region ?_; refine S_q rfl rfl rfl (Q_cmp rfl rfl rfl rfl) ?_; refine OPS_nil ?_; refine then_n ?_; refine WP_seq ?_; refine WP_cond rfl (fun c4_1 => ?_) (fun c4_1 => ?_) <;> (first | (simp [*] at c4_1; done) | (try simp at c4_1)); refine WP_exit ?_; refine then_e ?_; refine roundF_e ?_; refine block_e ?_; refine then_n ?_; refine WP_seq ?_; refine R_region ?_; refine S_q rfl rfl rfl (Q_assign rfl rfl) ?_; refine OPS_nil ?_; refine then_n ?_; refine WP_ret ?_))
    · refine pret (.inl rfl) rfl ⟨_, _, rfl, rfl, rfl⟩ ?_
      rw [← ht]; simp [resOf, idxI]
theorem idxI_any {α : Type} (xs : List α) (p : α → Bool) : decide (idxI (xs.findIdx? p) ≥ 0) = xs.any p := by
  cases hf : xs.findIdx? p with
  | none =>
    have : xs.any p = false := by simpa using List.findIdx?_eq_none_iff.1 hf
    simp [idxI, this]
  | some k =>
    obtain ⟨hk, h1, _⟩ := List.findIdx?_eq_some_iff_getElem.1 hf
    have : xs.any p = true := List.any_eq_true.2 ⟨xs[k], List.getElem_mem hk, h1⟩
    simp [idxI, this]
theorem contFn_s {α : Type} {C : CR α} {h : Frag} {a : Value} {xs : List α} {g : Nat} {cap : List Value} {p : α → Bool} (hs : SL h 3 C a xs) (hcal : callOk Tryz.prog g = true)
    (hfn : ∀ x vs, vs.length = 3 → ones vs = true → C h x vs → PSpec Tryz.prog g ([Value.agg vs.toArray] ++ cap).toArray h (fun _ v => v = .bool (p x))) :
    PSpec Tryz.prog 16 #[a, .func (.func g) #[] cap.toArray] h (fun _ v => v = .bool (xs.any p)) := by
  refine pspec_of (vs := [a, .func (.func g) #[] cap.toArray]) Tryz.func16 Tryz.ntmps16 rfl rfl ?_
  (focus (refine WP_seq ?_; refine R_region ?_; refine S_q rfl rfl rfl (Q_assign rfl rfl) ?_; refine OPS_nil ?_; refine then_n ?_; refine WP_seq ?_; refine R_region ?_; refine S_q rfl rfl rfl (Q_move rfl rfl) ?_; refine S_q rfl rfl rfl (Q_move rfl rfl) ?_; refine S_c rfl rfl rfl (C_callv (idxFn_s (by assumption) hcal hfn) rfl rfl ⟨_, _, rfl, ⟨_, _, rfl, rfl, rfl⟩, rfl⟩ (cal rfl) ?_); refine S_q rfl rfl rfl (Q_cmp rfl rfl rfl rfl) ?_; refine S_q rfl rfl rfl (Q_assign rfl rfl) ?_; refine OPS_nil ?_; refine then_n ?_; refine WP_ret ?_))
  refine pret (.inl rfl) rfl ⟨_, _, rfl, rfl, rfl⟩ ?_
  rw [← idxI_any]; simp [resOf]
end Go.Proofs.YtcfedojmmfbbeaaGreatDoor
/-
  CONTRACTS: a program that exceeds a limit.
-/
set_option linter.all false
namespace Go.Proofs.YtcfedojmmfbbeaaGreatDoor
open Go.Mesh Go.RowKit
set_option maxRecDepth 100000
set_option linter.unusedVariables false
set_option maxHeartbeats 4000000
attribute [local irreducible] WP OPS ANY ANYo LG LV FSpec PSpec QOP OPc OPw thenQ blockQ roundQ roundF retQ retM Rd At SLB OS opsL opsV onm omost oargs oleast opops opush ocnt otext nameV validI effP effQ targL idxI operB existsB
def bigM (m : Meth) : Bool := decide (m.params > 8) || decide (m.locals > 30) || decide ((m.code.length : Int) > 4000) || decide ((m.names.length : Int) > 1024)
def bigC (k : Cls) : Bool := (decide ((k.fields.length : Int) > 30) || decide ((k.methods.length : Int) > 30)) || k.methods.any bigM
def largeB (cs : List Cls) : Bool := decide ((cs.length : Int) > 60) || cs.any bigC
theorem bigC_ge {k : Cls} (h1 : (k.fields.length : Int) ≤ 30) (h2 : (k.methods.length : Int) ≤ 30) : bigC k = k.methods.any bigM := by
  unfold bigC
  have e1 : ¬ (k.fields.length : Int) > 30 := by omega
  have e2 : ¬ (k.methods.length : Int) > 30 := by omega
  rw [decide_eq_false e1, decide_eq_false e2]; rfl
attribute [local irreducible] bigM bigC largeB
theorem large_s {h : Frag} {cs : List Cls} {a : List Value} (hc : CodeC 8796093022208 h cs a) : PSpec Tryz.prog 13 #[.agg a.toArray] h (fun _ v => v = .bool (largeB cs)) := by
  obtain ⟨p, c, rfl, s1⟩ := hc
  have hl := s1.le
  refine pspec_of (vs := [.agg [Value.slice p cs.length c].toArray]) Tryz.func13 Tryz.ntmps13 rfl rfl ?_
  by_cases hbig : (cs.length : Int) > 60
  · (focus (refine WP_seq ?_; refine R_region ?_; refine S_c rfl rfl rfl (C_box rfl rfl ?_); intro b0_1; refine S_q rfl rfl rfl (Q_assign rfl rfl) ?_; refine OPS_nil ?_; refine then_n ?_; refine WP_seq ?_; refine WP_seq ?_; refine R_region ?_; refine S_q rfl rfl rfl (Q_fieldAddr rfl rfl (fld rfl rfl)) ?_; refine S_load rfl rfl rfl rfl rfl ?_; refine L_one (Rd.own m0) (ty rfl) ?_; refine S_q rfl rfl rfl (Q_len rfl rfl rfl rfl rfl rfl) ?_; refine S_q rfl rfl rfl (Q_cmp rfl rfl rfl rfl) ?_; refine OPS_nil ?_; refine then_n ?_; refine WP_cond rfl (fun c0_2 => ?_) (fun c0_2 => ?_) <;> (first | (simp [*] at c0_2; done) | (try simp at c0_2)); refine WP_seq ?_; refine R_region ?_; refine S_q rfl rfl rfl (Q_assign rfl rfl) ?_; refine OPS_nil ?_; refine then_n ?_; refine WP_ret ?_; refine then_r ?_))
    refine pret (.inl rfl) rfl ⟨_, _, rfl, rfl, rfl⟩ ?_
    simp [resOf, largeB, hbig]
  · (focus (refine WP_seq ?_; refine R_region ?_; refine S_c rfl rfl rfl (C_box rfl rfl ?_); intro b1_1; refine S_q rfl rfl rfl (Q_assign rfl rfl) ?_; refine OPS_nil ?_; refine then_n ?_; refine WP_seq ?_; refine WP_seq ?_; refine R_region ?_; refine S_q rfl rfl rfl (Q_fieldAddr rfl rfl (fld rfl rfl)) ?_; refine S_load rfl rfl rfl rfl rfl ?_; refine L_one (Rd.own m0) (ty rfl) ?_; refine S_q rfl rfl rfl (Q_len rfl rfl rfl rfl rfl rfl) ?_; refine S_q rfl rfl rfl (Q_cmp rfl rfl rfl rfl) ?_; refine OPS_nil ?_; refine then_n ?_; refine WP_cond rfl (fun c1_2 => ?_) (fun c1_2 => ?_) <;> (first | (simp [*] at c1_2; done) | (try simp at c1_2)); refine WP_skip ?_; refine then_n ?_; refine WP_seq ?_; refine WP_seq ?_; refine R_region ?_; refine S_q rfl rfl rfl (Q_fieldAddr rfl rfl (fld rfl rfl)) ?_; refine S_load rfl rfl rfl rfl rfl ?_; refine L_one (Rd.own m0) (ty rfl) ?_; refine S_q rfl rfl rfl (Q_len rfl rfl rfl rfl rfl rfl) ?_; refine S_q rfl rfl rfl (Q_move rfl rfl) ?_; refine OPS_nil ?_; refine then_n ?_; refine WP_block ?_))
    have hlb : largeB cs = cs.any bigC := by rw [largeB, decide_eq_false hbig]; rfl
    rw [hlb]
    (refine WP_loopC (α := Nat) [13, 12] (fun (i : Nat) => cs.length - i) (fun (i : Nat) => [(14, .int .i64 i)]) (fun hh (i : Nat) => hh = h ∧ i ≤ cs.length ∧ (cs.drop i).any bigC = cs.any bigC) 0 ⟨_, _, rfl, ⟨_, _, rfl, rfl, rfl⟩, rfl⟩ (by repeat' (first | exact trivial | refine ⟨rfl, ?_⟩)) ?_ ?_)
    · exact ⟨rfl, Nat.zero_le _, rfl⟩
    rintro h1 i _ ⟨rfl, hi, ht⟩
    by_cases hlt : i < cs.length
    · obtain ⟨k, ek⟩ := get_of hlt
      have had := any_drop (p := bigC) ek
      rw [ht] at had
      by_cases hb : (k.fields.length : Int) > 30 ∨ (k.methods.length : Int) > 30
      · have hbk : bigC k = true := by
          rcases hb with hb | hb
          · rw [bigC, decide_eq_true hb]; rfl
          · rw [bigC, decide_eq_true hb]; simp
        (focus (refine WP_seq ?_; refine R_region ?_; refine S_q rfl rfl rfl (Q_cmp rfl rfl rfl rfl) ?_; refine OPS_nil ?_; refine then_n ?_; refine WP_seq ?_; refine WP_cond rfl (fun c3_1 => ?_) (fun c3_1 => ?_) <;> (first | (simp [*] at c3_1; done) | (try simp at c3_1)); refine WP_skip ?_; refine then_n ?_; refine WP_seq ?_; refine WP_block ?_; refine WP_seq ?_; refine R_region ?_; refine S_q rfl rfl rfl (Q_indexS (by assumption) (by assumption) rfl rfl rfl (elm rfl) rfl) ?_; refine S_load rfl rfl rfl rfl rfl ?_; refine L_elA (by assumption) (by assumption) (ty rfl) ?_; rintro _ _ _ ⟨xs3_2, pf3_2, qf3_2, pm3_2, qm3_2, rfl, sf3_2, sm3_2⟩; refine S_c rfl rfl rfl (C_alloc rfl (zer rfl) ?_); intro b3_3; refine S_w0 rfl rfl (W_all rfl rfl rfl (ty rfl) u0 (by first | rfl | assumption) (by first | rfl | assumption) (by first | rfl | assumption | exact ones_sub (by assumption) _ _) ?_); refine OPS_nil ?_; refine then_n ?_; refine WP_seq ?_; refine WP_seq ?_; refine R_region ?_; refine S_q rfl rfl rfl (Q_fieldAddr rfl rfl (fld rfl rfl)) ?_; refine S_load rfl rfl rfl rfl rfl ?_; refine L_fld (Rd.own m0) (ty rfl) rfl ?_; refine S_q rfl rfl rfl (Q_len rfl rfl rfl rfl rfl rfl) ?_; refine S_q rfl rfl rfl (Q_cmp rfl rfl rfl rfl) ?_; refine S_q rfl rfl rfl (Q_move rfl rfl) ?_; refine S_gsplit rfl rfl rfl rfl (fun c3_4 => ?_) (fun c3_4 => ?_) <;> (first | (simp [*] at c3_4; done) | (try simp at c3_4)); (focus (refine S_gn rfl rfl rfl rfl rfl rfl ?_; refine S_gn rfl rfl rfl rfl rfl rfl ?_; refine S_gn rfl rfl rfl rfl rfl rfl ?_; refine S_gn rfl rfl rfl rfl rfl rfl ?_; refine S_q rfl rfl rfl (Q_pick_t rfl rfl rfl) ?_; refine OPS_nil ?_; refine then_n ?_; refine cond_t rfl ?_; refine WP_seq ?_; refine R_region ?_; refine S_q rfl rfl rfl (Q_assign rfl rfl) ?_; refine OPS_nil ?_; refine then_n ?_; refine WP_ret ?_; refine then_r ?_; refine block_r ?_; refine then_r ?_; refine roundF_r ?_; refine block_r ?_; refine then_r ?_)); rotate_left 1; (focus (refine S_gq rfl rfl rfl rfl rfl rfl (Q_fieldAddr rfl rfl (fld rfl rfl)) ?_; refine S_gload rfl rfl rfl rfl rfl rfl rfl rfl ?_; refine L_fld (Rd.own m0) (ty rfl) rfl ?_; refine S_gq rfl rfl rfl rfl rfl rfl (Q_len rfl rfl rfl rfl rfl rfl) ?_; refine S_gq rfl rfl rfl rfl rfl rfl (Q_cmp rfl rfl rfl rfl) ?_; refine S_q rfl rfl rfl (Q_pick_f rfl rfl rfl) ?_; refine OPS_nil ?_; refine then_n ?_; refine WP_cond rfl (fun c3_5 => ?_) (fun c3_5 => ?_) <;> (first | (simp [*] at c3_5; done) | (try simp at c3_5)); (focus (refine WP_seq ?_; refine R_region ?_; refine S_q rfl rfl rfl (Q_assign rfl rfl) ?_; refine OPS_nil ?_; refine then_n ?_; refine WP_ret ?_; refine then_r ?_; refine block_r ?_; refine then_r ?_; refine roundF_r ?_; refine block_r ?_; refine then_r ?_)); rotate_left 1; (focus (exfalso; omega)))); rotate_left 1))
        all_goals refine pret (.inl rfl) rfl ⟨_, _, rfl, rfl, rfl⟩ ?_
        all_goals (rw [had, hbk]; simp [resOf, *])
      · have hb1 : (k.fields.length : Int) ≤ 30 := by omega
        have hb2 : (k.methods.length : Int) ≤ 30 := by omega
        rw [bigC_ge hb1 hb2] at had
        (focus (refine WP_seq ?_; refine R_region ?_; refine S_q rfl rfl rfl (Q_cmp rfl rfl rfl rfl) ?_; refine OPS_nil ?_; refine then_n ?_; refine WP_seq ?_; refine WP_cond rfl (fun c4_1 => ?_) (fun c4_1 => ?_) <;> (first | (simp [*] at c4_1; done) | (try simp at c4_1)); refine WP_skip ?_; refine then_n ?_; refine WP_seq ?_; refine WP_block ?_; refine WP_seq ?_; refine R_region ?_; refine S_q rfl rfl rfl (Q_indexS (by assumption) (by assumption) rfl rfl rfl (elm rfl) rfl) ?_; refine S_load rfl rfl rfl rfl rfl ?_; refine L_elA (by assumption) (by assumption) (ty rfl) ?_; rintro _ _ _ ⟨xs4_2, pf4_2, qf4_2, pm4_2, qm4_2, rfl, sf4_2, sm4_2⟩; refine S_c rfl rfl rfl (C_alloc rfl (zer rfl) ?_); intro b4_3; refine S_w0 rfl rfl (W_all rfl rfl rfl (ty rfl) u0 (by first | rfl | assumption) (by first | rfl | assumption) (by first | rfl | assumption | exact ones_sub (by assumption) _ _) ?_); refine OPS_nil ?_; refine then_n ?_; refine WP_seq ?_; refine WP_seq ?_; refine R_region ?_; refine S_q rfl rfl rfl (Q_fieldAddr rfl rfl (fld rfl rfl)) ?_; refine S_load rfl rfl rfl rfl rfl ?_; refine L_fld (Rd.own m0) (ty rfl) rfl ?_; refine S_q rfl rfl rfl (Q_len rfl rfl rfl rfl rfl rfl) ?_; refine S_q rfl rfl rfl (Q_cmp rfl rfl rfl rfl) ?_; refine S_q rfl rfl rfl (Q_move rfl rfl) ?_; refine S_gsplit rfl rfl rfl rfl (fun c4_4 => ?_) (fun c4_4 => ?_) <;> (first | (simp [*] at c4_4; done) | (try simp at c4_4)); (focus (exfalso; omega)); (focus (refine S_gq rfl rfl rfl rfl rfl rfl (Q_fieldAddr rfl rfl (fld rfl rfl)) ?_; refine S_gload rfl rfl rfl rfl rfl rfl rfl rfl ?_; refine L_fld (Rd.own m0) (ty rfl) rfl ?_; refine S_gq rfl rfl rfl rfl rfl rfl (Q_len rfl rfl rfl rfl rfl rfl) ?_; refine S_gq rfl rfl rfl rfl rfl rfl (Q_cmp rfl rfl rfl rfl) ?_; refine S_q rfl rfl rfl (Q_pick_f rfl rfl rfl) ?_; refine OPS_nil ?_; refine then_n ?_; refine WP_cond rfl (fun c4_5 => ?_) (fun c4_5 => ?_) <;> (first | (simp [*] at c4_5; done) | (try simp at c4_5)); (focus (exfalso; omega)); (focus (refine WP_skip ?_; refine then_n ?_; refine WP_seq ?_; refine R_region ?_; refine S_q rfl rfl rfl (Q_fieldAddr rfl rfl (fld rfl rfl)) ?_; refine S_load rfl rfl rfl rfl rfl ?_; refine L_fld (Rd.own m0) (ty rfl) rfl ?_; refine S_q rfl rfl rfl (Q_len rfl rfl rfl rfl rfl rfl) ?_; refine S_q rfl rfl rfl (Q_move rfl rfl) ?_; refine OPS_nil ?_; refine then_n ?_; refine WP_block ?_)); rotate_left 1)); rotate_left 1))
        (refine WP_loopC (α := Nat) [30, 29, 14, 13, 12] (fun (j : Nat) => k.methods.length - j) (fun (j : Nat) => [(31, .int .i64 j)]) (fun hh (j : Nat) => hh = h1 ∧ j ≤ k.methods.length ∧ (k.methods.drop j).any bigM = k.methods.any bigM) 0 ⟨_, _, rfl, ⟨_, _, rfl, ⟨_, _, rfl, ⟨_, _, rfl, ⟨_, _, rfl, rfl, rfl⟩, rfl⟩, rfl⟩, rfl⟩, rfl⟩ (by repeat' (first | exact trivial | refine ⟨rfl, ?_⟩)) ?_ ?_)
        · exact ⟨rfl, Nat.zero_le _, rfl⟩
        rintro h2 j _ ⟨rfl, hj, ht2⟩
        by_cases hlt2 : j < k.methods.length
        · obtain ⟨m, em⟩ := get_of hlt2
          have had2 := any_drop (p := bigM) em
          rw [ht2] at had2
          (focus (refine WP_seq ?_; refine R_region ?_; refine S_q rfl rfl rfl (Q_cmp rfl rfl rfl rfl) ?_; refine OPS_nil ?_; refine then_n ?_; refine WP_seq ?_; refine WP_cond rfl (fun c6_1 => ?_) (fun c6_1 => ?_) <;> (first | (simp [*] at c6_1; done) | (try simp at c6_1)); refine WP_skip ?_; refine then_n ?_; refine WP_seq ?_; refine WP_block ?_; refine WP_seq ?_; refine R_region ?_; refine S_q rfl rfl rfl (Q_indexS (by assumption) (by assumption) rfl rfl rfl (elm rfl) rfl) ?_; refine S_load rfl rfl rfl rfl rfl ?_; refine L_elA (by assumption) (by assumption) (ty rfl) ?_; rintro _ _ _ ⟨ip6_2, iq6_2, xs6_2, pc6_2, qc6_2, pn6_2, qn6_2, rfl, sc6_2, sn6_2⟩; refine S_c rfl rfl rfl (C_alloc rfl (zer rfl) ?_); intro b6_3; refine S_w0 rfl rfl (W_all rfl rfl rfl (ty rfl) u0 (by first | rfl | assumption) (by first | rfl | assumption) (by first | rfl | assumption | exact ones_sub (by assumption) _ _) ?_); refine OPS_nil ?_; refine then_n ?_; refine WP_seq ?_; refine R_region ?_; refine S_q rfl rfl rfl (Q_fieldAddr rfl rfl (fld rfl rfl)) ?_; refine S_load rfl rfl rfl rfl rfl ?_; refine L_fld (Rd.own m0) (ty rfl) rfl ?_; refine S_q rfl rfl rfl (Q_cmp rfl rfl rfl rfl) ?_; refine S_q rfl rfl rfl (Q_move rfl rfl) ?_; refine S_gsplit rfl rfl rfl rfl (fun c6_4 => ?_) (fun c6_4 => ?_) <;> (first | (simp [*] at c6_4; done) | (try simp at c6_4)); (focus (refine S_gn rfl rfl rfl rfl rfl rfl ?_; refine S_gn rfl rfl rfl rfl rfl rfl ?_; refine S_gn rfl rfl rfl rfl rfl rfl ?_; refine S_q rfl rfl rfl (Q_pick_t rfl rfl rfl) ?_; refine S_q rfl rfl rfl (Q_move rfl rfl) ?_; refine S_gn rfl rfl rfl rfl rfl rfl ?_; refine S_gn rfl rfl rfl rfl rfl rfl ?_; refine S_gn rfl rfl rfl rfl rfl rfl ?_; refine S_gn rfl rfl rfl rfl rfl rfl ?_; refine S_q rfl rfl rfl (Q_pick_t rfl rfl rfl) ?_; refine S_q rfl rfl rfl (Q_move rfl rfl) ?_; refine S_gn rfl rfl rfl rfl rfl rfl ?_; refine S_gn rfl rfl rfl rfl rfl rfl ?_; refine S_gn rfl rfl rfl rfl rfl rfl ?_; refine S_gn rfl rfl rfl rfl rfl rfl ?_; refine S_q rfl rfl rfl (Q_pick_t rfl rfl rfl) ?_; refine OPS_nil ?_; refine then_n ?_; refine cond_t rfl ?_; refine WP_seq ?_; refine R_region ?_; refine S_q rfl rfl rfl (Q_assign rfl rfl) ?_; refine OPS_nil ?_; refine then_n ?_; refine WP_ret ?_; refine block_r ?_; refine then_r ?_; refine roundF_r ?_; refine block_r ?_; refine block_r ?_; refine then_r ?_; refine roundF_r ?_; refine block_r ?_; refine then_r ?_)); rotate_left 1; (focus (refine S_gq rfl rfl rfl rfl rfl rfl (Q_fieldAddr rfl rfl (fld rfl rfl)) ?_; refine S_gload rfl rfl rfl rfl rfl rfl rfl rfl ?_; refine L_fld (Rd.own m0) (ty rfl) rfl ?_; refine S_gq rfl rfl rfl rfl rfl rfl (Q_cmp rfl rfl rfl rfl) ?_; refine S_q rfl rfl rfl (Q_pick_f rfl rfl rfl) ?_; refine S_q rfl rfl rfl (Q_move rfl rfl) ?_; refine S_gsplit rfl rfl rfl rfl (fun c6_5 => ?_) (fun c6_5 => ?_) <;> (first | (simp [*] at c6_5; done) | (try simp at c6_5)); (focus (refine S_gn rfl rfl rfl rfl rfl rfl ?_; refine S_gn rfl rfl rfl rfl rfl rfl ?_; refine S_gn rfl rfl rfl rfl rfl rfl ?_; refine S_gn rfl rfl rfl rfl rfl rfl ?_; refine S_q rfl rfl rfl (Q_pick_t rfl rfl rfl) ?_; refine S_q rfl rfl rfl (Q_move rfl rfl) ?_; refine S_gn rfl rfl rfl rfl rfl rfl ?_; refine S_gn rfl rfl rfl rfl rfl rfl ?_; refine S_gn rfl rfl rfl rfl rfl rfl ?_; refine S_gn rfl rfl rfl rfl rfl rfl ?_; refine S_q rfl rfl rfl (Q_pick_t rfl rfl rfl) ?_; refine OPS_nil ?_; refine then_n ?_; refine cond_t rfl ?_; refine WP_seq ?_; refine R_region ?_; refine S_q rfl rfl rfl (Q_assign rfl rfl) ?_; refine OPS_nil ?_; refine then_n ?_; refine WP_ret ?_; refine block_r ?_; refine then_r ?_; refine roundF_r ?_; refine block_r ?_; refine block_r ?_; refine then_r ?_; refine roundF_r ?_; refine block_r ?_; refine then_r ?_)); rotate_left 1; (focus (refine S_gq rfl rfl rfl rfl rfl rfl (Q_fieldAddr rfl rfl (fld rfl rfl)) ?_; refine S_gload rfl rfl rfl rfl rfl rfl rfl rfl ?_; refine L_fld (Rd.own m0) (ty rfl) rfl ?_; refine S_gq rfl rfl rfl rfl rfl rfl (Q_len rfl rfl rfl rfl rfl rfl) ?_; refine S_gq rfl rfl rfl rfl rfl rfl (Q_cmp rfl rfl rfl rfl) ?_; refine S_q rfl rfl rfl (Q_pick_f rfl rfl rfl) ?_; refine S_q rfl rfl rfl (Q_move rfl rfl) ?_; refine S_gsplit rfl rfl rfl rfl (fun c6_6 => ?_) (fun c6_6 => ?_) <;> (first | (simp [*] at c6_6; done) | (try simp at c6_6)); (focus (refine S_gn rfl rfl rfl rfl rfl rfl ?_; refine S_gn rfl rfl rfl rfl rfl rfl ?_; refine S_gn rfl rfl rfl rfl rfl rfl ?_; refine S_gn rfl rfl rfl rfl rfl rfl ?_; refine S_q rfl rfl rfl (Q_pick_t rfl rfl rfl) ?_; refine OPS_nil ?_; refine then_n ?_; refine cond_t rfl ?_; refine WP_seq ?_; refine R_region ?_; refine S_q rfl rfl rfl (Q_assign rfl rfl) ?_; refine OPS_nil ?_; refine then_n ?_; refine WP_ret ?_; refine block_r ?_; refine then_r ?_; refine roundF_r ?_; refine block_r ?_; refine block_r ?_; refine then_r ?_; refine roundF_r ?_; refine block_r ?_; refine then_r ?_)); rotate_left 1; (focus (refine S_gq rfl rfl rfl rfl rfl rfl (Q_fieldAddr rfl rfl (fld rfl rfl)) ?_; refine S_gload rfl rfl rfl rfl rfl rfl rfl rfl ?_; refine L_fld (Rd.own m0) (ty rfl) rfl ?_; refine S_gq rfl rfl rfl rfl rfl rfl (Q_len rfl rfl rfl rfl rfl rfl) ?_; refine S_gq rfl rfl rfl rfl rfl rfl (Q_cmp rfl rfl rfl rfl) ?_; refine S_q rfl rfl rfl (Q_pick_f rfl rfl rfl) ?_; refine OPS_nil ?_; refine then_n ?_; refine WP_cond rfl (fun c6_7 => ?_) (fun c6_7 => ?_) <;> (first | (simp [*] at c6_7; done) | (try simp at c6_7)); (focus (refine WP_seq ?_; refine R_region ?_; refine S_q rfl rfl rfl (Q_assign rfl rfl) ?_; refine OPS_nil ?_; refine then_n ?_; refine WP_ret ?_; refine block_r ?_; refine then_r ?_; refine roundF_r ?_; refine block_r ?_; refine block_r ?_; refine then_r ?_; refine roundF_r ?_; refine block_r ?_; refine then_r ?_)); rotate_left 1; (focus (refine WP_skip ?_; refine block_n ?_; refine then_n ?_; refine R_region ?_; refine S_q rfl rfl rfl (Q_add rfl rfl rfl (by omega)) ?_; refine S_q rfl rfl rfl (Q_move rfl rfl) ?_; refine OPS_nil ?_)); rotate_left 1)); rotate_left 2)); rotate_left 3)); rotate_left 4))
          iterate 4
            · have hbm : bigM m = true := by simp [bigM, *]
              refine pret (.inl rfl) rfl ⟨_, _, rfl, rfl, rfl⟩ ?_
              rw [had, had2, hbm]; simp [resOf]
          · have hbm : bigM m = false := by simp [bigM]; omega
            refine roundF_n (j + 1) (by omega) ⟨rfl, by omega, ?_⟩ (by repeat' (first | exact List.Sublist.refl _ | exact List.sublist_append_left _ _ | exact List.nil_sublist _ | apply List.Sublist.cons₂ | apply List.Sublist.cons)) (by repeat' (first | exact trivial | refine ⟨rfl, ?_⟩))
            rw [had2, hbm]; rfl
        · have hge2 : j = k.methods.length := by omega
          subst hge2
          have hna : k.methods.any bigM = false := by rw [← ht2]; simp
          (focus (refine WP_seq ?_; refine R_region ?_; refine S_q rfl rfl rfl (Q_cmp rfl rfl rfl rfl) ?_; refine OPS_nil ?_; refine then_n ?_; refine WP_seq ?_; refine WP_cond rfl (fun c7_1 => ?_) (fun c7_1 => ?_) <;> (first | (simp [*] at c7_1; done) | (try simp at c7_1)); refine WP_exit ?_; refine then_e ?_; refine roundF_e ?_; refine block_e ?_; refine block_n ?_; refine then_n ?_; refine R_region ?_; refine S_q rfl rfl rfl (Q_add rfl rfl rfl (by omega)) ?_; refine S_q rfl rfl rfl (Q_move rfl rfl) ?_; refine OPS_nil ?_))
          refine roundF_n (i + 1) (by omega) ⟨rfl, by omega, ?_⟩ (by repeat' (first | exact List.Sublist.refl _ | exact List.sublist_append_left _ _ | exact List.nil_sublist _ | apply List.Sublist.cons₂ | apply List.Sublist.cons)) (by repeat' (first | exact trivial | refine ⟨rfl, ?_⟩))
          rw [had, hna]; rfl
    · have hge : i = cs.length := by omega
      subst hge
      (focus (refine WP_seq ?_; refine R_region ?_; refine S_q rfl rfl rfl (Q_cmp rfl rfl rfl rfl) ?_; refine OPS_nil ?_; refine then_n ?_; refine WP_seq ?_; refine WP_cond rfl (fun c8_1 => ?_) (fun c8_1 => ?_) <;> (first | (simp [*] at c8_1; done) | (try simp at c8_1)); refine WP_exit ?_; refine then_e ?_; refine roundF_e ?_; refine block_e ?_; refine then_n ?_; refine WP_seq ?_; refine R_region ?_; refine S_q rfl rfl rfl (Q_assign rfl rfl) ?_; refine OPS_nil ?_; refine then_n ?_; refine WP_ret ?_))
      refine pret (.inl rfl) rfl ⟨_, _, rfl, rfl, rfl⟩ ?_
      rw [← ht]; simp [resOf]
end Go.Proofs.YtcfedojmmfbbeaaGreatDoor
/-
  CONTRACTS: an instruction visited.
-/
set_option linter.all false
namespace Go.Mesh
open Go.RowKit
/-- the visits: sound, the depths before the instructions, the most, what is to be done -/
structure EX where
  sound : Bool
  dep : List (Int × Int)
  most : Int
  work : List Int
def lk (a : Int) : List (Int × Int) → Option Int
  | [] => none
  | (b, d) :: l => if b = a then some d else lk a l
def iv (l : List (Int × Int)) : List (Int × Value) := l.map fun p => (p.1, .int .i64 p.2)
theorem mget_iv (a : Int) : ∀ l : List (Int × Int), mget a (iv l) = (lk a l).map (fun d => Value.int .i64 d)
  | [] => rfl
  | (b, d) :: l => by
    have := mget_iv a l
    simp only [iv, List.map_cons, mget, lk] at this ⊢
    by_cases hb : b = a
    · simp [hb]
    · simp [hb, this]
theorem mput_iv {a d : Int} : ∀ {l : List (Int × Int)}, lk a l = none → mput a (.int .i64 d) (iv l) = iv (l ++ [(a, d)])
  | [], _ => rfl
  | (b, e) :: l, h => by
    simp only [lk] at h
    by_cases hb : b = a
    · simp [hb] at h
    · simp only [hb, if_false] at h
      have := mput_iv (d := d) h
      simp only [iv, List.map_cons, List.cons_append, mput, hb, if_false] at this ⊢
      rw [this]
def vis (n : Nat) (a d : Int) (s : EX) : EX :=
  if a < 0 ∨ (n : Int) ≤ a then { s with sound := false }
  else match lk a s.dep with
    | some w => { s with sound := s.sound && (w == d) }
    | none => { s with dep := s.dep ++ [(a, d)], work := s.work ++ [a] }
theorem vis_out {n : Nat} {a d : Int} {s : EX} (h : a < 0 ∨ (n : Int) ≤ a) : vis n a d s = { s with sound := false } := by rw [vis, if_pos h]
theorem vis_old {n : Nat} {a d w : Int} {s : EX} (h : ¬ (a < 0 ∨ (n : Int) ≤ a)) (hl : lk a s.dep = some w) : vis n a d s = { s with sound := s.sound && (w == d) } := by rw [vis, if_neg h, hl]
theorem vis_new {n : Nat} {a d : Int} {s : EX} (h : ¬ (a < 0 ∨ (n : Int) ≤ a)) (hl : lk a s.dep = none) : vis n a d s = { s with dep := s.dep ++ [(a, d)], work := s.work ++ [a] } := by rw [vis, if_neg h, hl]
end Go.Mesh
namespace Go.Proofs.YtcfedojmmfbbeaaGreatDoor
open Go.Mesh Go.RowKit
set_option maxRecDepth 100000
set_option linter.unusedVariables false
set_option maxHeartbeats 4000000
attribute [local irreducible] WP OPS ANY ANYo LG LV FSpec PSpec QOP OPc OPw thenQ blockQ roundQ roundF retQ retM Rd At SLB OS opsL opsV onm omost oargs oleast opops opush ocnt otext nameV validI effP effQ targL idxI operB existsB bigM bigC largeB
theorem visit_s {h : Frag} {bm b3 bw bx bp : Nat} {m : Meth} {s' : ByteArray} {p1 p2 : Option Addr} {q1 q2 : Nat} (sc : SL h 3 InsC (.slice p1 m.code.length q1) m.code) (a1 : At h bm 0 [.string s', .int .i64 m.params, .int .i64 m.locals, .slice p1 m.code.length q1, .slice p2 m.names.length q2]) (a3 : At h b3 0 [ptr bx 0]) {s : EX} {p : Option Addr} {c : Nat} {M : Hp} (ho : OS h 3 1 IntC (.slice p s.work.length c) s.work M) (hwl : s.work.length ≤ 8796093022208) (a d : Int) :
    FSpec Tryz.prog 33 ([Value.int .i64 a, .int .i64 d] ++ [ptr bm 0, ptr b3 0, ptr bw 0]).toArray h ([(bw, cells [.slice p s.work.length c] 46), (bx, cells [.string s', .int .i64 m.params, .int .i64 m.locals, .slice p1 m.code.length q1, .slice p2 m.names.length q2, .map (some bp), .bool s.sound, .int .i64 s.most] 83), (bp, mapObj itv (iv s.dep))] ++ (M ++ []))
      (fun h' L' v => h' = h ∧ ∃ p' c' M', OS h 3 1 IntC (.slice p' (vis m.code.length a d s).work.length c') (vis m.code.length a d s).work M' ∧ L' = [(bw, cells [.slice p' (vis m.code.length a d s).work.length c'] 46), (bx, cells [.string s', .int .i64 m.params, .int .i64 m.locals, .slice p1 m.code.length q1, .slice p2 m.names.length q2, .map (some bp), .bool (vis m.code.length a d s).sound, .int .i64 (vis m.code.length a d s).most] 83), (bp, mapObj itv (iv (vis m.code.length a d s).dep))] ++ (M' ++ [])) := by
  have hcl := sc.le
  refine spec_of (vs := [.int .i64 a, .int .i64 d, ptr bm 0, ptr b3 0, ptr bw 0]) Tryz.func33 Tryz.ntmps33 rfl rfl rfl ?_
  by_cases hr : a < 0 ∨ (m.code.length : Int) ≤ a
  · rw [vis_out hr]
    (focus (refine WP_seq ?_; refine WP_seq ?_; refine R_region ?_; refine S_q rfl rfl rfl (Q_move rfl rfl) ?_; refine S_q rfl rfl rfl (Q_cmp rfl rfl rfl rfl) ?_; refine S_q rfl rfl rfl (Q_move rfl rfl) ?_; refine S_gsplit rfl rfl rfl rfl (fun c0_1 => ?_) (fun c0_1 => ?_) <;> (first | (simp [*] at c0_1; done) | (try simp at c0_1)); (focus (refine S_gn rfl rfl rfl rfl rfl rfl ?_; refine S_gn rfl rfl rfl rfl rfl rfl ?_; refine S_gn rfl rfl rfl rfl rfl rfl ?_; refine S_gn rfl rfl rfl rfl rfl rfl ?_; refine S_gn rfl rfl rfl rfl rfl rfl ?_; refine S_q rfl rfl rfl (Q_pick_t rfl rfl rfl) ?_; refine OPS_nil ?_; refine then_n ?_; refine cond_t rfl ?_; refine WP_seq ?_; refine R_region ?_; refine S_load rfl rfl rfl rfl rfl ?_; refine L_one (Rd.pers (by assumption)) (ty rfl) ?_; refine S_q rfl rfl rfl (Q_nil rfl rfl) ?_; refine S_q rfl rfl rfl (Q_fieldAddr rfl rfl (fld rfl rfl)) ?_; refine S_w0 rfl rfl (W_fld rfl rfl rfl (ty rfl) u1 rfl rfl rfl rfl ?_); refine OPS_nil ?_; refine then_n ?_; refine WP_ret ?_; refine then_r ?_)); rotate_left 1; (focus (refine S_gq rfl rfl rfl rfl rfl rfl (Q_move rfl rfl) ?_; refine S_gq rfl rfl rfl rfl rfl rfl (Q_fieldAddr rfl rfl (fld rfl rfl)) ?_; refine S_gload rfl rfl rfl rfl rfl rfl rfl rfl ?_; refine L_fld (Rd.pers (by assumption)) (ty rfl) rfl ?_; refine S_gq rfl rfl rfl rfl rfl rfl (Q_len rfl rfl rfl rfl rfl rfl) ?_; refine S_gq rfl rfl rfl rfl rfl rfl (Q_cmp rfl rfl rfl rfl) ?_; refine S_q rfl rfl rfl (Q_pick_f rfl rfl rfl) ?_; refine OPS_nil ?_; refine then_n ?_; refine WP_cond rfl (fun c0_2 => ?_) (fun c0_2 => ?_) <;> (first | (simp [*] at c0_2; done) | (try simp at c0_2)); (focus (refine WP_seq ?_; refine R_region ?_; refine S_load rfl rfl rfl rfl rfl ?_; refine L_one (Rd.pers (by assumption)) (ty rfl) ?_; refine S_q rfl rfl rfl (Q_nil rfl rfl) ?_; refine S_q rfl rfl rfl (Q_fieldAddr rfl rfl (fld rfl rfl)) ?_; refine S_w0 rfl rfl (W_fld rfl rfl rfl (ty rfl) u1 rfl rfl rfl rfl ?_); refine OPS_nil ?_; refine then_n ?_; refine WP_ret ?_; refine then_r ?_)); rotate_left 1; (focus (exfalso; omega)))); rotate_left 1))
    all_goals exact ret_q _ (.inl rfl) rfl rfl (List.Sublist.refl _) ⟨rfl, _, _, _, ho, rfl⟩
  · have hg := mget_iv a s.dep
    cases hlk : lk a s.dep with
    | some w =>
      rw [vis_old hr hlk]
      rw [hlk] at hg
      simp only [Option.map_some] at hg
      (focus (refine WP_seq ?_; refine WP_seq ?_; refine R_region ?_; refine S_q rfl rfl rfl (Q_move rfl rfl) ?_; refine S_q rfl rfl rfl (Q_cmp rfl rfl rfl rfl) ?_; refine S_q rfl rfl rfl (Q_move rfl rfl) ?_; refine S_gsplit rfl rfl rfl rfl (fun c1_1 => ?_) (fun c1_1 => ?_) <;> (first | (simp [*] at c1_1; done) | (try simp at c1_1)); (focus (exfalso; omega)); (focus (refine S_gq rfl rfl rfl rfl rfl rfl (Q_move rfl rfl) ?_; refine S_gq rfl rfl rfl rfl rfl rfl (Q_fieldAddr rfl rfl (fld rfl rfl)) ?_; refine S_gload rfl rfl rfl rfl rfl rfl rfl rfl ?_; refine L_fld (Rd.pers (by assumption)) (ty rfl) rfl ?_; refine S_gq rfl rfl rfl rfl rfl rfl (Q_len rfl rfl rfl rfl rfl rfl) ?_; refine S_gq rfl rfl rfl rfl rfl rfl (Q_cmp rfl rfl rfl rfl) ?_; refine S_q rfl rfl rfl (Q_pick_f rfl rfl rfl) ?_; refine OPS_nil ?_; refine then_n ?_; refine WP_cond rfl (fun c1_2 => ?_) (fun c1_2 => ?_) <;> (first | (simp [*] at c1_2; done) | (try simp at c1_2)); (focus (exfalso; omega)); (focus (refine WP_skip ?_; refine then_n ?_; refine WP_seq ?_; refine WP_seq ?_; refine R_region ?_; refine S_load rfl rfl rfl rfl rfl ?_; refine L_one (Rd.pers (by assumption)) (ty rfl) ?_; refine S_q rfl rfl rfl (Q_nil rfl rfl) ?_; refine S_q rfl rfl rfl (Q_fieldAddr rfl rfl (fld rfl rfl)) ?_; refine S_load rfl rfl rfl rfl rfl ?_; refine L_fld (Rd.own m1) (ty rfl) rfl ?_; refine S_q rfl rfl rfl (Q_move rfl rfl) ?_; refine S_q rfl rfl rfl (Q_lookupOkS rfl rfl rfl itk rfl rfl (.inr m2) (by assumption)) ?_; refine S_q rfl rfl rfl (Q_move rfl rfl) ?_; refine S_q rfl rfl rfl (Q_extract rfl rfl rfl) ?_; refine S_q rfl rfl rfl (Q_extract rfl rfl rfl) ?_; refine S_q rfl rfl rfl (Q_assign rfl rfl) ?_; refine S_q rfl rfl rfl (Q_assign rfl rfl) ?_; refine OPS_nil ?_; refine then_n ?_; refine WP_seq ?_; refine R_region ?_; refine S_q rfl rfl rfl (Q_move rfl rfl) ?_; refine OPS_nil ?_; refine then_n ?_; refine cond_t rfl ?_; refine WP_seq ?_; refine R_draw (n := 13) mixed rfl ?_; refine A_at 0 rfl rfl ?_; refine A_load (m' := 1) rfl rfl rfl rfl rfl rfl (by decide +kernel) ?_; refine L_one (Rd.pers (by assumption)) (ty rfl) ?_; refine A_at 1 rfl rfl ?_; refine A_load (m' := 3) rfl rfl rfl rfl rfl rfl (by decide +kernel) ?_; refine L_one (Rd.pers (by assumption)) (ty rfl) ?_; refine A_at 2 rfl rfl ?_; refine A_q (m' := 7) rfl rfl rfl (Q_nil rfl rfl) rfl (by decide +kernel) ?_; refine A_at 3 rfl rfl ?_; refine A_q (m' := 15) rfl rfl rfl (Q_fieldAddr rfl rfl (fld rfl rfl)) rfl (by decide +kernel) ?_; refine A_at 4 rfl rfl ?_; refine A_load (m' := 31) rfl rfl rfl rfl rfl rfl (by decide +kernel) ?_; refine L_fld (Rd.own m1) (ty rfl) rfl ?_; refine A_at 5 rfl rfl ?_; refine A_q (m' := 63) rfl rfl rfl (Q_move rfl rfl) rfl (by decide +kernel) ?_; refine A_at 6 rfl rfl ?_; refine A_gsplit rfl rfl rfl rfl (fun c1_3 => ?_) (fun c1_3 => ?_) <;> (first | (simp [*] at c1_3; done) | (try simp at c1_3)); (focus (refine A_at 6 rfl rfl ?_; refine A_gq (m' := 127) rfl rfl rfl rfl rfl rfl (Q_move rfl rfl) rfl (by decide +kernel) ?_; refine A_at 7 rfl rfl ?_; refine A_gq (m' := 255) rfl rfl rfl rfl rfl rfl (Q_move rfl rfl) rfl (by decide +kernel) ?_; refine A_at 8 rfl rfl ?_; refine A_gq (m' := 511) rfl rfl rfl rfl rfl rfl (Q_cmp rfl rfl rfl rfl) rfl (by decide +kernel) ?_; refine A_at 9 rfl rfl ?_; refine A_q (m' := 1023) rfl rfl rfl (Q_pick_t rfl rfl rfl) rfl (by decide +kernel) ?_; refine A_at 10 rfl rfl ?_; refine A_q (m' := 2047) rfl rfl rfl (Q_nil rfl rfl) rfl (by decide +kernel) ?_; refine A_at 11 rfl rfl ?_; refine A_q (m' := 4095) rfl rfl rfl (Q_fieldAddr rfl rfl (fld rfl rfl)) rfl (by decide +kernel) ?_; refine A_at 12 rfl rfl ?_; refine A_w0 (m' := 8191) rfl rfl rfl rfl (by decide +kernel) (W_fld rfl rfl rfl (ty rfl) u1 rfl rfl rfl rfl ?_); refine A_done (by decide +kernel) ?_; refine then_n ?_; refine WP_ret ?_; refine then_r ?_)); rotate_left 1; (focus (refine A_at 6 rfl rfl ?_; refine A_gn (m' := 127) rfl rfl rfl rfl rfl rfl rfl (by decide +kernel) ?_; refine A_at 7 rfl rfl ?_; refine A_gn (m' := 255) rfl rfl rfl rfl rfl rfl rfl (by decide +kernel) ?_; refine A_at 8 rfl rfl ?_; refine A_gn (m' := 511) rfl rfl rfl rfl rfl rfl rfl (by decide +kernel) ?_; refine A_at 9 rfl rfl ?_; refine A_q (m' := 1023) rfl rfl rfl (Q_pick_f rfl rfl rfl) rfl (by decide +kernel) ?_; refine A_at 10 rfl rfl ?_; refine A_q (m' := 2047) rfl rfl rfl (Q_nil rfl rfl) rfl (by decide +kernel) ?_; refine A_at 11 rfl rfl ?_; refine A_q (m' := 4095) rfl rfl rfl (Q_fieldAddr rfl rfl (fld rfl rfl)) rfl (by decide +kernel) ?_; refine A_at 12 rfl rfl ?_; refine A_w0 (m' := 8191) rfl rfl rfl rfl (by decide +kernel) (W_fld rfl rfl rfl (ty rfl) u1 rfl rfl rfl rfl ?_); refine A_done (by decide +kernel) ?_; refine then_n ?_; refine WP_ret ?_; refine then_r ?_)); rotate_left 1)); rotate_left 2)); rotate_left 2))
      all_goals refine ret_q _ (.inl rfl) rfl rfl (List.Sublist.refl _) ⟨rfl, _, _, _, ho, ?_⟩
      all_goals (simp only [c1_3]; rfl)
    | none =>
      rw [vis_new hr hlk]
      rw [hlk] at hg
      simp only [Option.map_none] at hg
      (focus (refine WP_seq ?_; refine WP_seq ?_; refine R_region ?_; refine S_q rfl rfl rfl (Q_move rfl rfl) ?_; refine S_q rfl rfl rfl (Q_cmp rfl rfl rfl rfl) ?_; refine S_q rfl rfl rfl (Q_move rfl rfl) ?_; refine S_gsplit rfl rfl rfl rfl (fun c2_1 => ?_) (fun c2_1 => ?_) <;> (first | (simp [*] at c2_1; done) | (try simp at c2_1)); (focus (exfalso; omega)); (focus (refine S_gq rfl rfl rfl rfl rfl rfl (Q_move rfl rfl) ?_; refine S_gq rfl rfl rfl rfl rfl rfl (Q_fieldAddr rfl rfl (fld rfl rfl)) ?_; refine S_gload rfl rfl rfl rfl rfl rfl rfl rfl ?_; refine L_fld (Rd.pers (by assumption)) (ty rfl) rfl ?_; refine S_gq rfl rfl rfl rfl rfl rfl (Q_len rfl rfl rfl rfl rfl rfl) ?_; refine S_gq rfl rfl rfl rfl rfl rfl (Q_cmp rfl rfl rfl rfl) ?_; refine S_q rfl rfl rfl (Q_pick_f rfl rfl rfl) ?_; refine OPS_nil ?_; refine then_n ?_; refine WP_cond rfl (fun c2_2 => ?_) (fun c2_2 => ?_) <;> (first | (simp [*] at c2_2; done) | (try simp at c2_2)); (focus (exfalso; omega)); (focus (refine WP_skip ?_; refine then_n ?_; refine WP_seq ?_; refine WP_seq ?_; refine R_region ?_; refine S_load rfl rfl rfl rfl rfl ?_; refine L_one (Rd.pers (by assumption)) (ty rfl) ?_; refine S_q rfl rfl rfl (Q_nil rfl rfl) ?_; refine S_q rfl rfl rfl (Q_fieldAddr rfl rfl (fld rfl rfl)) ?_; refine S_load rfl rfl rfl rfl rfl ?_; refine L_fld (Rd.own m1) (ty rfl) rfl ?_; refine S_q rfl rfl rfl (Q_move rfl rfl) ?_; refine S_q rfl rfl rfl (Q_lookupOkN rfl rfl rfl itk rfl rfl (.inr m2) (by assumption)) ?_; refine S_q rfl rfl rfl (Q_move rfl rfl) ?_; refine S_q rfl rfl rfl (Q_extract rfl rfl rfl) ?_; refine S_q rfl rfl rfl (Q_extract rfl rfl rfl) ?_; refine S_q rfl rfl rfl (Q_assign rfl rfl) ?_; refine S_q rfl rfl rfl (Q_assign rfl rfl) ?_; refine OPS_nil ?_; refine then_n ?_; refine WP_seq ?_; refine R_region ?_; refine S_q rfl rfl rfl (Q_move rfl rfl) ?_; refine OPS_nil ?_; refine then_n ?_; refine cond_f rfl ?_; refine WP_skip ?_; refine then_n ?_; refine WP_seq ?_; refine R_region ?_; refine S_load rfl rfl rfl rfl rfl ?_; refine L_one (Rd.pers (by assumption)) (ty rfl) ?_; refine S_q rfl rfl rfl (Q_nil rfl rfl) ?_; refine S_q rfl rfl rfl (Q_fieldAddr rfl rfl (fld rfl rfl)) ?_; refine S_load rfl rfl rfl rfl rfl ?_; refine L_fld (Rd.own m1) (ty rfl) rfl ?_; refine S_q rfl rfl rfl (Q_move rfl rfl) ?_; refine S_q rfl rfl rfl (Q_move rfl rfl) ?_; refine S_w0 rfl rfl (W_mapUpdate rfl rfl rfl rfl itk rfl u2 ?_); refine OPS_nil ?_; refine then_n ?_; refine R_region ?_; refine S_load rfl rfl rfl rfl rfl ?_; refine L_one (Rd.own m0) (ty rfl) ?_; refine S_q rfl rfl rfl (Q_move rfl rfl) ?_; refine S_c rfl rfl rfl (C_buildSlice rfl (elm rfl) (zer rfl) rfl ⟨_, _, _, rfl, rfl, rfl, rfl, rfl, rfl⟩ rfl rfl ?_); intro b2_3; refine S_w rfl rfl rfl (W_app1 [_, _, _] _ ho rfl rfl rfl rfl rfl rfl (elm rfl) (zer rfl) rfl rfl rfl rfl rfl (by (try simp only [List.length_append, List.length_cons, List.length_nil]); omega) (by (try simp only [List.length_append, List.length_cons, List.length_nil]); omega) ?_); rintro p2_4 q2_4 m2_4 o2_4; refine S_w0 rfl rfl (W_one rfl rfl rfl (ty rfl) u0 rfl rfl rfl ?_); refine OPS_nil ?_)); rotate_left 1)); rotate_left 1))
      exact ret_q _ (.inr rfl) rfl rfl (List.Sublist.refl _) ⟨rfl, _, _, _, o2_4, by rw [← mput_iv hlk]; rfl⟩
end Go.Proofs.YtcfedojmmfbbeaaGreatDoor
/-
  THE PLAIN LAW: the instructions of a method that are reached, visited one after the other.
-/
set_option linter.all false
namespace Go.Proofs.YtcfedojmmfbbeaaGreatDoor
open Go.Mesh Go.RowKit
set_option maxRecDepth 100000
set_option linter.unusedVariables false
set_option maxHeartbeats 4000000
attribute [local irreducible] WP OPS ANY ANYo LG LV FSpec PSpec QOP OPc OPw thenQ blockQ roundQ roundF retQ retM Rd At SLB OS opsL opsV onm omost oargs oleast opops opush ocnt otext nameV validI effP effQ targL idxI operB existsB bigM bigC largeB
theorem lk_mem {a d : Int} : ∀ {l : List (Int × Int)}, lk a l = some d → (a, d) ∈ l
  | [], h => by simp [lk] at h
  | (b, e) :: l, h => by
    simp only [lk] at h
    by_cases hb : b = a
    · simp [hb] at h; subst h; subst hb; simp
    · simp only [hb, if_false] at h; exact List.mem_cons.2 (.inr (lk_mem h))
theorem lk_none {a : Int} : ∀ {l : List (Int × Int)}, lk a l = none → a ∉ l.map Prod.fst
  | [], _ => by simp
  | (b, e) :: l, h => by
    simp only [lk] at h
    by_cases hb : b = a
    · simp [hb] at h
    · simp only [hb, if_false] at h
      have := lk_none h
      simp only [List.map_cons, List.mem_cons, not_or]
      exact ⟨fun e => hb e.symm, this⟩
theorem lk_snoc {a b d e : Int} : ∀ {l : List (Int × Int)}, lk a l = some d → lk a (l ++ [(b, e)]) = some d
  | [], h => by simp [lk] at h
  | (c, f) :: l, h => by
    simp only [lk, List.cons_append] at h ⊢
    by_cases hb : c = a
    · simp [hb] at h ⊢; exact h
    · simp only [hb, if_false] at h ⊢; exact lk_snoc h
theorem lk_here {a e : Int} : ∀ {l : List (Int × Int)}, lk a l = none → lk a (l ++ [(a, e)]) = some e
  | [], _ => by simp [lk]
  | (c, f) :: l, h => by
    simp only [lk, List.cons_append] at h ⊢
    by_cases hb : c = a
    · simp [hb] at h
    · simp only [hb, if_false] at h ⊢; exact lk_here h
/-- what holds of the visits, whatever came -/
structure InvE (n : Nat) (s : EX) : Prop where
  nd : (s.dep.map Prod.fst).Nodup
  rng : ∀ p, p ∈ s.dep → 0 ≤ p.1 ∧ p.1 < n
  bnd : ∀ p, p ∈ s.dep → -(33 * (s.dep.length : Int)) ≤ p.2 ∧ p.2 ≤ 33 * s.dep.length
  wk : ∀ a, a ∈ s.work → ∃ d, lk a s.dep = some d
  wl : s.work.length ≤ s.dep.length
theorem InvE.len {n : Nat} {s : EX} (x : InvE n s) : s.dep.length ≤ n := by
  have h1 : (s.dep.map Prod.fst).length ≤ ((List.range n).map (fun i : Nat => (i : Int))).length := by
    refine x.nd.length_le_of_subset fun a ha => ?_
    obtain ⟨p, hp, rfl⟩ := List.mem_map.1 ha
    have := x.rng p hp
    exact List.mem_map.2 ⟨p.1.toNat, List.mem_range.2 (by omega), by omega⟩
  simpa using h1
theorem InvE.pop {n : Nat} {s : EX} (x : InvE n s) (so : Bool) (ms : Int) : InvE n { s with work := s.work.dropLast, sound := so, most := ms } :=
  ⟨x.nd, x.rng, x.bnd, fun a ha => x.wk a (List.dropLast_subset _ ha), by have := x.wl; simp only [List.length_dropLast]; omega⟩
theorem InvE.vis {n : Nat} {s : EX} (x : InvE n s) {a d : Int} (hd : -(33 * ((s.dep.length : Int) + 1)) ≤ d ∧ d ≤ 33 * ((s.dep.length : Int) + 1)) : InvE n (vis n a d s) ∧ s.dep.length ≤ (vis n a d s).dep.length ∧ 2 * (n - (vis n a d s).dep.length) + (vis n a d s).work.length ≤ 2 * (n - s.dep.length) + s.work.length := by
  by_cases hr : a < 0 ∨ (n : Int) ≤ a
  · rw [vis_out hr]; exact ⟨⟨x.nd, x.rng, x.bnd, x.wk, x.wl⟩, Nat.le_refl _, Nat.le_refl _⟩
  · cases hlk : lk a s.dep with
    | some w => rw [vis_old hr hlk]; exact ⟨⟨x.nd, x.rng, x.bnd, x.wk, x.wl⟩, Nat.le_refl _, Nat.le_refl _⟩
    | none =>
      rw [vis_new hr hlk]
      have hi : InvE n { s with dep := s.dep ++ [(a, d)], work := s.work ++ [a] } := by
        refine ⟨?_, fun p hp => ?_, fun p hp => ?_, fun b hb => ?_, ?_⟩
        · simp only [List.map_append, List.map_cons, List.map_nil]
          refine List.nodup_append.2 ⟨x.nd, by simp, fun b hb c hc => ?_⟩
          simp at hc; subst hc
          exact fun e => lk_none hlk (e ▸ hb)
        · rcases List.mem_append.1 hp with hp | hp
          · exact x.rng p hp
          · simp at hp; subst hp; simp only; omega
        · simp only [List.length_append, List.length_cons, List.length_nil]
          rcases List.mem_append.1 hp with hp | hp
          · have := x.bnd p hp; omega
          · simp at hp; subst hp; simp only; omega
        · rcases List.mem_append.1 hb with hb | hb
          · obtain ⟨e, he⟩ := x.wk b hb; exact ⟨e, lk_snoc he⟩
          · simp at hb; subst hb; exact ⟨d, lk_here hlk⟩
        · have := x.wl; simp only [List.length_append, List.length_cons, List.length_nil]; omega
      have hl := hi.len
      simp only [List.length_append, List.length_cons, List.length_nil] at hl
      refine ⟨hi, by simp, ?_⟩
      simp only [List.length_append, List.length_cons, List.length_nil]; omega
def visAll (n : Nat) (d : Int) : List Int → EX → EX
  | [], s => s
  | a :: l, s => visAll n d l (Go.Mesh.vis n a d s)
theorem visAll_take {n : Nat} {d : Int} : ∀ {l : List Int} {j : Nat} {a : Int} {s : EX}, l[j]? = some a → visAll n d (l.take (j + 1)) s = Go.Mesh.vis n a d (visAll n d (l.take j) s)
  | [], j, a, s, h => by simp at h
  | b :: l, 0, a, s, h => by simp at h; subst h; rfl
  | b :: l, j + 1, a, s, h => by
    simp only [List.take_succ_cons, visAll]
    exact visAll_take (by simpa using h)
theorem InvE.visAll {n : Nat} {d : Int} : ∀ {l : List Int} {s : EX}, InvE n s → (-(33 * ((s.dep.length : Int) + 1)) ≤ d ∧ d ≤ 33 * ((s.dep.length : Int) + 1)) → InvE n (visAll n d l s) ∧ s.dep.length ≤ (Go.Proofs.YtcfedojmmfbbeaaGreatDoor.visAll n d l s).dep.length ∧ 2 * (n - (Go.Proofs.YtcfedojmmfbbeaaGreatDoor.visAll n d l s).dep.length) + (Go.Proofs.YtcfedojmmfbbeaaGreatDoor.visAll n d l s).work.length ≤ 2 * (n - s.dep.length) + s.work.length
  | [], s, x, hd => ⟨x, Nat.le_refl _, Nat.le_refl _⟩
  | a :: l, s, x, hd => by
    obtain ⟨h1, h2, h3⟩ := x.vis (a := a) hd
    obtain ⟨hd1, hd2⟩ := hd
    have hd' : -(33 * (((Go.Mesh.vis n a d s).dep.length : Int) + 1)) ≤ d ∧ d ≤ 33 * (((Go.Mesh.vis n a d s).dep.length : Int) + 1) := by constructor <;> omega
    obtain ⟨h4, h5, h6⟩ := InvE.visAll (l := l) h1 hd'
    exact ⟨h4, by simp only [Go.Proofs.YtcfedojmmfbbeaaGreatDoor.visAll]; omega, by simp only [Go.Proofs.YtcfedojmmfbbeaaGreatDoor.visAll]; omega⟩
/-- what one instruction does: 'a' is taken, 'dp' was before it -/
def midE (x : Ins) (dp : Int) (s : EX) : EX := { s with work := s.work.dropLast, most := mx (mx s.most dp) (dp - effP x + effQ x), sound := if dp < effP x ∨ 64 < mx (mx s.most dp) (dp - effP x + effQ x) then false else s.sound }
def stepX (n : Nat) (x : Ins) (a dp : Int) (s : EX) : EX :=
  if validI x = false then { s with work := s.work.dropLast, sound := false } else visAll n (dp - effP x + effQ x) (targL x a) (midE x dp s)
def stepE (m : Meth) (s : EX) : EX :=
  match s.work.getLast? with
  | none => s
  | some a => match m.code[a.toNat]? with
    | none => s
    | some x => stepX m.code.length x a ((lk a s.dep).getD 0) s
theorem InvE.step {n : Nat} {s : EX} (x : InvE n s) {i : Ins} {a dp : Int} (hw : 0 < s.work.length) (hd : -(33 * (s.dep.length : Int)) ≤ dp ∧ dp ≤ 33 * s.dep.length) : InvE n (stepX n i a dp s) ∧ 2 * (n - (stepX n i a dp s).dep.length) + (stepX n i a dp s).work.length < 2 * (n - s.dep.length) + s.work.length := by
  unfold stepX
  split
  · refine ⟨x.pop _ _, ?_⟩
    simp only [List.length_dropLast]; omega
  · have he := eff_le i
    have hp : InvE n (midE i dp s) := x.pop _ _
    obtain ⟨h1, h2, h3⟩ := InvE.visAll (d := dp - effP i + effQ i) (l := targL i a) hp (by simp only [midE]; omega)
    refine ⟨h1, Nat.lt_of_le_of_lt h3 ?_⟩
    simp only [midE, List.length_dropLast]; omega
def itE (m : Meth) : Nat → EX → EX
  | 0, s => s
  | k + 1, s => itE m k (stepE m s)
theorem itE_succ (m : Meth) : ∀ (k : Nat) (s : EX), itE m (k + 1) s = stepE m (itE m k s)
  | 0, s => rfl
  | k + 1, s => by
    have := itE_succ m k (stepE m s)
    simp only [itE] at this ⊢; exact this
theorem stepE_end {m : Meth} {s : EX} (h : s.work = []) : stepE m s = s := by unfold stepE; rw [h]; rfl
theorem itE_end {m : Meth} {s : EX} (h : s.work = []) : ∀ k, itE m k s = s
  | 0 => rfl
  | k + 1 => by simp only [itE, stepE_end h]; exact itE_end h k
theorem itE_add (m : Meth) : ∀ (j k : Nat) (s : EX), itE m (j + k) s = itE m k (itE m j s)
  | 0, k, s => by simp [itE]
  | j + 1, k, s => by rw [Nat.add_right_comm]; simp only [itE]; exact itE_add m j k _
theorem itE_same {m : Meth} {s : EX} {j k : Nat} (hj : (itE m j s).work = []) (hk : (itE m k s).work = []) : itE m j s = itE m k s := by
  rcases Nat.le_total j k with h | h
  · obtain ⟨d, rfl⟩ := Nat.le.dest h
    rw [itE_add, itE_end hj]
  · obtain ⟨d, rfl⟩ := Nat.le.dest h
    rw [itE_add, itE_end hk]
theorem stepX_bad {n : Nat} {x : Ins} {a dp : Int} {s : EX} (h : validI x = false) : stepX n x a dp s = { s with work := s.work.dropLast, sound := false } := by rw [stepX, if_pos h]
theorem stepX_ok {n : Nat} {x : Ins} {a dp : Int} {s : EX} (h : validI x = true) : stepX n x a dp s = visAll n (dp - effP x + effQ x) (targL x a) (midE x dp s) := by rw [stepX, if_neg (by rw [h]; simp)]
theorem stepE_of {m : Meth} {s : EX} {a dp : Int} {x : Ins} (hw : s.work[s.work.length - 1]? = some a) (hx : m.code[a.toNat]? = some x) (hl : lk a s.dep = some dp) : stepE m s = stepX m.code.length x a dp s := by
  unfold stepE
  rw [List.getLast?_eq_getElem?, hw]
  simp only [hx, hl, Option.getD_some]
def startE (m : Meth) : EX := Go.Mesh.vis m.code.length 0 0 ⟨true, [], 0, []⟩
open Classical in
noncomputable def soundM (m : Meth) : Bool :=
  if m.code = [] then false else if h : ∃ k, (itE m k (startE m)).work = [] then (itE m h.choose (startE m)).sound else false
theorem soundM_eq {m : Meth} {k : Nat} (h0 : m.code ≠ []) (h : (itE m k (startE m)).work = []) : soundM m = (itE m k (startE m)).sound := by
  have hx : ∃ k, (itE m k (startE m)).work = [] := ⟨k, h⟩
  rw [soundM, if_neg h0, dif_pos hx, itE_same hx.choose_spec h]
theorem startE_inv {m : Meth} : InvE m.code.length (startE m) :=
  (InvE.vis (n := m.code.length) (s := ⟨true, [], 0, []⟩) ⟨by simp, by simp, by simp, by simp, by simp⟩ (a := 0) (d := 0) (by simp)).1
end Go.Proofs.YtcfedojmmfbbeaaGreatDoor
