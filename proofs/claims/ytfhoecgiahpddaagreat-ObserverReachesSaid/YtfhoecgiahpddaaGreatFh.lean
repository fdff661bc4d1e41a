/-
  CONTRACTS: the flights on their way, one after the other; a slice backwards.
-/
import Derived.Test.YtfhoecgiahpddaaGreatFg
set_option linter.all false
namespace Go.Proofs.YtfhoecgiahpddaaGreat
open Go.Mesh Go.RowKit
set_option maxRecDepth 100000
set_option linter.unusedVariables false
set_option maxHeartbeats 4000000
attribute [local irreducible] WP OPS ANY ANYo LG LV FSpec PSpec QOP OPc OPw thenQ blockQ roundQ roundF retQ retM Rd At SLB OS cmpI orI cmpID namedB valB nodeB kindB validG valAux idxI findG zeroV viewOf vwAt idxOf recv flyB scionOf moveOf numberedOf idOf valueOf mget mput localB carriedB stubOf followF followOf
def flOf (vs : List View) (v : View) : List (View × Flight) := (v.flights.filter (flyB vs v)).map fun x => (v, x)
def flightsOf (vs : List View) : List (View × Flight) := vs.flatMap (flOf vs)
def FlEnc (h : Frag) (i : View × Flight) (vals : Array Value) : Prop := ∃ us ws, vals = [Value.agg us.toArray, .agg ws.toArray].toArray ∧ us.length = 13 ∧ ones us = true ∧ ViewC 4398046511104 h i.1 us ∧ ws.length = 41 ∧ ones ws = true ∧ FlightC 4398046511104 h i.2 ws
/-- what has come before the flight j of the view k -/
def flPre (vs : List View) (k j : Nat) (v : View) : List (View × Flight) := (vs.take k).flatMap (flOf vs) ++ ((v.flights.take j).filter (flyB vs v)).map fun x => (v, x)
theorem flPre_zero (vs : List View) (k : Nat) (v : View) : flPre vs k 0 v = (vs.take k).flatMap (flOf vs) := by simp [flPre]
theorem flPre_yes {vs : List View} {k j : Nat} {v : View} {x : Flight} (hx : v.flights[j]? = some x) (hf : flyB vs v x = true) : flPre vs k (j + 1) v = flPre vs k j v ++ [(v, x)] := by
  simp [flPre, List.take_add_one, hx, hf]
theorem flPre_no {vs : List View} {k j : Nat} {v : View} {x : Flight} (hx : v.flights[j]? = some x) (hf : flyB vs v x = false) : flPre vs k (j + 1) v = flPre vs k j v := by
  simp [flPre, List.take_add_one, hx, hf]
theorem flPre_end {vs : List View} {k : Nat} {v : View} (hv : vs[k]? = some v) : flPre vs k v.flights.length v = (vs.take (k + 1)).flatMap (flOf vs) := by
  simp [flPre, List.take_add_one, hv, flOf]
theorem flPre_prefix {vs : List View} {k j : Nat} {v : View} {x : Flight} (hv : vs[k]? = some v) (hx : v.flights[j]? = some x) (hf : flyB vs v x = true) : (flPre vs k j v ++ [(v, x)]) <+: flightsOf vs := by
  rw [← flPre_yes hx hf]
  refine ⟨((v.flights.drop (j + 1)).filter (flyB vs v)).map (fun x => (v, x)) ++ (vs.drop (k + 1)).flatMap (flOf vs), ?_⟩
  have h1 : flOf vs v = ((v.flights.take (j + 1)).filter (flyB vs v)).map (fun x => (v, x)) ++ ((v.flights.drop (j + 1)).filter (flyB vs v)).map (fun x => (v, x)) := by
    rw [← List.map_append, ← List.filter_append, List.take_append_drop, flOf]
  have h2 : flightsOf vs = (vs.take k).flatMap (flOf vs) ++ (flOf vs v ++ (vs.drop (k + 1)).flatMap (flOf vs)) := by
    have key : ∀ f : View → List (View × Flight), vs.flatMap f = (vs.take k).flatMap f ++ (f v ++ (vs.drop (k + 1)).flatMap f) := fun f => by
      conv => lhs; rw [← List.take_append_drop k vs, drop_get hv]
      simp
    exact key _
  rw [h2, h1, flPre]; simp
attribute [local irreducible] flOf flightsOf flPre
theorem flights1_s {h : Frag} {b : Nat} {cs : List Value} {vs : List View} (hb : At h b 0 cs) (hf : FleetC h vs cs) : Iter Tryz.prog 77 #[ptr b 0] h FlEnc (flightsOf vs) := by
  intro l J Jx h0 L0 hl hy hj
  replace hb := hb.up hl
  replace hf := hf.up hl
  obtain ⟨p, c, mb, ps, rfl, fv, fm, fq⟩ := hf
  have hf : FleetC h0 vs [.slice p vs.length c, .map (some mb)] := ⟨p, c, mb, ps, rfl, fv, fm, fq⟩
  clear fq fm
  have hvl := fv.le
  rw [show L0 = L0 ++ [] from (List.append_nil _).symm]
  refine spec_of (vs := [.func (.yield l) #[] #[], ptr b 0]) Tryz.func77 Tryz.ntmps77 rfl rfl rfl ?_
  (focus (refine WP_seq ?_; refine R_region ?_; refine S_q rfl rfl rfl (Q_fieldAddr rfl rfl (fld rfl rfl)) ?_; refine S_load rfl rfl rfl rfl rfl ?_; refine L_fld (Rd.pers (by assumption)) (ty rfl) rfl ?_; refine S_q rfl rfl rfl (Q_len rfl rfl rfl rfl rfl rfl) ?_; refine S_q rfl rfl rfl (Q_move rfl rfl) ?_; refine OPS_nil ?_; refine then_n ?_; refine WP_block ?_))
  (refine WP_loopM (α := Nat × Hp) []  _ [9, 8, 0, 1] (fun (s : Nat × Hp) => vs.length - s.1) (fun (s : Nat × Hp) =>  s.2) (fun (s : Nat × Hp) => [(10, .int .i64 s.1)]) (fun hh (s : Nat × Hp) => le h0 hh ∧ s.1 ≤ vs.length ∧ J ((vs.take s.1).flatMap (flOf vs)) hh s.2) (0, L0) rfl ⟨_, _, rfl, ⟨_, _, rfl, ⟨_, _, rfl, ⟨_, _, rfl, rfl, rfl⟩, rfl⟩, rfl⟩, rfl⟩ (by repeat' (first | exact trivial | refine ⟨rfl, ?_⟩)) ?_ ?_)
  · exact ⟨le_refl _, Nat.zero_le _, hj⟩
  rintro h1 ⟨k, Lx⟩ - ⟨hl1, hk, hJ⟩
  simp only at hk hJ
  dsimp only
  (replace hb := hb.up hl1; replace fv := fv.up hl1; replace hf := hf.up hl1)
  by_cases hlt : k < vs.length
  · obtain ⟨v, ev⟩ := get_of hlt
    rw [← flPre_zero vs k v] at hJ
    (focus (refine WP_seq ?_; refine R_region ?_; refine S_q rfl rfl rfl (Q_cmp rfl rfl rfl rfl) ?_; refine OPS_nil ?_; refine then_n ?_; refine WP_seq ?_; refine WP_cond rfl (fun c3_1 => ?_) (fun c3_1 => ?_) <;> (first | (simp [*] at c3_1; done) | (try simp at c3_1)); refine WP_skip ?_; refine then_n ?_; refine WP_seq ?_; refine WP_block ?_; refine WP_seq ?_; refine R_region ?_; refine S_q rfl rfl rfl (Q_indexS (by assumption) (by assumption) rfl rfl rfl (elm rfl) rfl) ?_; refine S_load rfl rfl rfl rfl rfl ?_; refine L_elA (by assumption) (by assumption) (ty rfl) ?_; rintro _ _ _ ⟨xi3_2, xa3_2, po3_2, qo3_2, ps3_2, qs3_2, pc3_2, qc3_2, pn3_2, qn3_2, pm3_2, qm3_2, xw3_2, xv3_2, pf3_2, qf3_2, pr3_2, qr3_2, xe3_2, xf3_2, rfl, vo3_2, vs3_2, vc3_2, vn3_2, vm3_2, vf3_2, vr3_2⟩; refine S_c rfl rfl rfl (C_alloc rfl (zer rfl) ?_); intro b3_3; refine S_w0 rfl rfl (W_all rfl rfl rfl (ty rfl) u0 (by first | rfl | assumption) (by first | rfl | assumption) (by first | rfl | assumption | exact ones_sub (by assumption) _ _) ?_); refine OPS_nil ?_; refine then_n ?_; refine WP_seq ?_; refine R_region ?_; refine S_q rfl rfl rfl (Q_fieldAddr rfl rfl (fld rfl rfl)) ?_; refine S_load rfl rfl rfl rfl rfl ?_; refine L_fld (Rd.own m0) (ty rfl) rfl ?_; refine S_q rfl rfl rfl (Q_len rfl rfl rfl rfl rfl rfl) ?_; refine S_q rfl rfl rfl (Q_move rfl rfl) ?_; refine OPS_nil ?_; refine then_n ?_; refine WP_block ?_))
    (refine WP_loopM (α := Nat × Hp) [_]  _ [16, 15, 4, 10, 9, 8, 0, 1] (fun (s : Nat × Hp) => v.flights.length - s.1) (fun (s : Nat × Hp) =>  s.2) (fun (s : Nat × Hp) => [(17, .int .i64 s.1)]) (fun hh (s : Nat × Hp) => le h1 hh ∧ s.1 ≤ v.flights.length ∧ J (flPre vs k s.1 v) hh s.2) (0, Lx) rfl ⟨_, _, rfl, ⟨_, _, rfl, ⟨_, _, rfl, ⟨_, _, rfl, ⟨_, _, rfl, ⟨_, _, rfl, ⟨_, _, rfl, ⟨_, _, rfl, rfl, rfl⟩, rfl⟩, rfl⟩, rfl⟩, rfl⟩, rfl⟩, rfl⟩, rfl⟩ (by repeat' (first | exact trivial | refine ⟨rfl, ?_⟩)) ?_ ?_)
    · exact ⟨le_refl _, Nat.zero_le _, hJ⟩
    have hfl := vf3_2.le
    clear hJ Lx
    rintro h2 ⟨j, Lx⟩ - ⟨hl2, hj2, hJ⟩
    simp only at hj2 hJ
    dsimp only
    (replace hb := hb.up hl2; replace fv := fv.up hl2; replace hf := hf.up hl2; replace vo3_2 := vo3_2.up hl2; replace vs3_2 := vs3_2.up hl2; replace vc3_2 := vc3_2.up hl2; replace vn3_2 := vn3_2.up hl2; replace vm3_2 := vm3_2.up hl2; replace vf3_2 := vf3_2.up hl2; replace vr3_2 := vr3_2.up hl2)
    by_cases hlt2 : j < v.flights.length
    · obtain ⟨x, ex⟩ := get_of hlt2
      (focus (refine WP_seq ?_; refine R_region ?_; refine S_q rfl rfl rfl (Q_cmp rfl rfl rfl rfl) ?_; refine OPS_nil ?_; refine then_n ?_; refine WP_seq ?_; refine WP_cond rfl (fun c6_1 => ?_) (fun c6_1 => ?_) <;> (first | (simp [*] at c6_1; done) | (try simp at c6_1)); refine WP_skip ?_; refine then_n ?_; refine WP_seq ?_; refine WP_block ?_; refine WP_seq ?_; refine R_region ?_; refine S_q rfl rfl rfl (Q_indexS (by assumption) (by assumption) rfl rfl rfl (elm rfl) rfl) ?_; refine S_load rfl rfl rfl rfl rfl ?_; refine L_elA (by assumption) (by assumption) (ty rfl) ?_; rintro _ _ _ ⟨xa6_2, xb6_2, xc6_2, xd6_2, xe6_2, pa6_2, qa6_2, pf6_2, qf6_2, pm6_2, qm6_2, xw6_2, y16_2, y26_2, y36_2, y46_2, y56_2, y66_2, y76_2, y86_2, y96_2, y106_2, y116_2, y126_2, y136_2, y146_2, y156_2, rfl, ha6_2, hf6_2, hm6_2⟩; refine S_c rfl rfl rfl (C_alloc rfl (zer rfl) ?_); intro b6_3; refine S_w0 rfl rfl (W_all rfl rfl rfl (ty rfl) u0 (by first | rfl | assumption) (by first | rfl | assumption) (by first | rfl | assumption | exact ones_sub (by assumption) _ _) ?_); refine OPS_nil ?_; refine then_n ?_; refine WP_seq ?_; refine R_region ?_; refine S_load rfl rfl rfl rfl rfl ?_; refine L_agg (Rd.pers (by assumption)) (ty rfl) (by first | rfl | assumption) ?_; refine S_load rfl rfl rfl rfl rfl ?_; refine L_agg (Rd.own m1) (ty rfl) (by first | rfl | assumption) ?_; refine S_load rfl rfl rfl rfl rfl ?_; refine L_agg (Rd.own m0) (ty rfl) (by first | rfl | assumption) ?_; refine S_c rfl rfl rfl (C_callv (flying_s (by assumption) ⟨by assumption, _, _, _, _, _, _, _, _, _, _, _, _, _, _, _, _, _, _, _, rfl, by assumption, by assumption, by assumption, by assumption, by assumption, by assumption, by assumption⟩ ⟨_, _, _, _, _, _, _, _, _, _, _, _, _, _, _, _, _, _, _, _, _, _, _, _, _, _, _, rfl, by assumption, by assumption, by assumption⟩) rfl rfl ⟨_, _, rfl, ⟨_, _, rfl, ⟨_, _, rfl, rfl, rfl⟩, rfl⟩, rfl⟩ (cal rfl) ?_); refine S_q rfl rfl rfl (Q_move rfl rfl) ?_; refine S_gsplit rfl rfl rfl rfl (fun c6_4 => ?_) (fun c6_4 => ?_) <;> (first | (simp [*] at c6_4; done) | (try simp at c6_4)); (focus (refine S_gq rfl rfl rfl rfl rfl rfl (Q_move rfl rfl) ?_; refine S_gload rfl rfl rfl rfl rfl rfl rfl rfl ?_; refine L_agg (Rd.own m1) (ty rfl) (by first | rfl | assumption) ?_; refine S_gload rfl rfl rfl rfl rfl rfl rfl rfl ?_; refine L_agg (Rd.own m0) (ty rfl) (by first | rfl | assumption) ?_)); rotate_left 1; (focus (refine S_gn rfl rfl rfl rfl rfl rfl ?_; refine S_gn rfl rfl rfl rfl rfl rfl ?_; refine S_gn rfl rfl rfl rfl rfl rfl ?_; refine S_gn rfl rfl rfl rfl rfl rfl ?_; refine S_gn rfl rfl rfl rfl rfl rfl ?_; refine S_q rfl rfl rfl (Q_pick_f rfl rfl rfl) ?_; refine OPS_nil ?_; refine then_n ?_; refine cond_f rfl ?_; refine WP_skip ?_; refine block_n ?_; refine then_n ?_; refine R_region ?_; refine S_q rfl rfl rfl (Q_add rfl rfl rfl (by omega)) ?_; refine S_q rfl rfl rfl (Q_move rfl rfl) ?_; refine OPS_nil ?_)); rotate_left 1))
      · refine S_gw rfl rfl rfl rfl rfl rfl (W_yield [_, _] _ (hy (flPre vs k j v) (v, x) _ h2 Lx (le_trans hl1 hl2) hJ (flPre_prefix ev ex c6_4) ⟨_, _, rfl, rfl, by assumption, ⟨xi3_2, _, _, _, _, _, _, _, _, _, _, _, _, _, _, _, _, _, _, _, rfl, vo3_2, vs3_2, vc3_2, vn3_2, vm3_2, vf3_2, vr3_2⟩, rfl, by assumption, ⟨_, _, _, _, _, _, _, _, _, _, _, _, _, _, _, _, _, _, _, _, _, _, _, _, _, _, _, rfl, by assumption, by assumption, by assumption⟩⟩) rfl rfl rfl ⟨_, _, rfl, ⟨_, _, rfl, rfl, rfl⟩, rfl⟩ rfl ?_)
        rintro h3 M' _ hl3 (⟨rfl, hJ'⟩ | ⟨rfl, hx'⟩)
        · (focus (refine S_gq rfl rfl rfl rfl rfl rfl (Q_not rfl rfl) ?_; refine S_q rfl rfl rfl (Q_pick_t rfl rfl rfl) ?_; refine OPS_nil ?_; refine then_n ?_; refine cond_f rfl ?_; refine WP_skip ?_; refine block_n ?_; refine then_n ?_; refine R_region ?_; refine S_q rfl rfl rfl (Q_add rfl rfl rfl (by omega)) ?_; refine S_q rfl rfl rfl (Q_move rfl rfl) ?_; refine OPS_nil ?_))
          exact roundF_n (j + 1, M') (by simp only; omega) ⟨le_trans hl2 hl3, by simp only; omega, by simp only; rw [flPre_yes ex c6_4]; exact hJ'⟩ (by repeat' (first | exact List.Sublist.refl _ | exact List.sublist_append_left _ _ | exact List.nil_sublist _ | apply List.Sublist.cons₂ | apply List.Sublist.cons)) (by repeat' (first | exact trivial | refine ⟨rfl, ?_⟩))
        · (focus (refine S_gq rfl rfl rfl rfl rfl rfl (Q_not rfl rfl) ?_; refine S_q rfl rfl rfl (Q_pick_t rfl rfl rfl) ?_; refine OPS_nil ?_; refine then_n ?_; refine cond_t rfl ?_; refine WP_ret ?_; refine block_r ?_; refine then_r ?_; refine roundF_r ?_; refine block_r ?_; refine block_r ?_; refine then_r ?_; refine roundF_r ?_; refine block_r ?_))
          exact ret_q M' (.inl rfl) rfl rfl (by repeat' (first | exact List.Sublist.refl _ | exact List.sublist_append_left _ _ | exact List.nil_sublist _ | apply List.Sublist.cons₂ | apply List.Sublist.cons)) (.inr hx')
      · exact roundF_n (j + 1, Lx) (by simp only; omega) ⟨hl2, by simp only; omega, by simp only; rw [flPre_no ex c6_4]; exact hJ⟩ (by repeat' (first | exact List.Sublist.refl _ | exact List.sublist_append_left _ _ | exact List.nil_sublist _ | apply List.Sublist.cons₂ | apply List.Sublist.cons)) (by repeat' (first | exact trivial | refine ⟨rfl, ?_⟩))
    · have hge : j = v.flights.length := by omega
      subst hge
      rw [flPre_end ev] at hJ
      (focus (refine WP_seq ?_; refine R_region ?_; refine S_q rfl rfl rfl (Q_cmp rfl rfl rfl rfl) ?_; refine OPS_nil ?_; refine then_n ?_; refine WP_seq ?_; refine WP_cond rfl (fun c9_1 => ?_) (fun c9_1 => ?_) <;> (first | (simp [*] at c9_1; done) | (try simp at c9_1)); refine WP_exit ?_; refine then_e ?_; refine roundF_e ?_; refine block_e ?_; refine block_n ?_; refine then_n ?_; refine R_region ?_; refine S_q rfl rfl rfl (Q_add rfl rfl rfl (by omega)) ?_; refine S_q rfl rfl rfl (Q_move rfl rfl) ?_; refine OPS_nil ?_))
      exact roundF_n (k + 1, Lx) (by simp only; omega) ⟨le_trans hl1 hl2, by simp only; omega, hJ⟩ (by repeat' (first | exact List.Sublist.refl _ | exact List.sublist_append_left _ _ | exact List.nil_sublist _ | apply List.Sublist.cons₂ | apply List.Sublist.cons)) (by repeat' (first | exact trivial | refine ⟨rfl, ?_⟩))
  · have hge : k = vs.length := by omega
    subst hge
    rw [List.take_length] at hJ
    (focus (refine WP_seq ?_; refine R_region ?_; refine S_q rfl rfl rfl (Q_cmp rfl rfl rfl rfl) ?_; refine OPS_nil ?_; refine then_n ?_; refine WP_seq ?_; refine WP_cond rfl (fun c10_1 => ?_) (fun c10_1 => ?_) <;> (first | (simp [*] at c10_1; done) | (try simp at c10_1)); refine WP_exit ?_; refine then_e ?_; refine roundF_e ?_; refine block_e ?_))
    exact ret_q Lx (.inr rfl) rfl rfl (by simp) (.inl (by rw [flightsOf]; exact hJ))
theorem Iter.up {α : Type} {P : Program} {g : FuncId} {cap : Array Value} {h h' : Frag} {enc : Frag → α → Array Value → Prop} {items : List α} (x : Go.Mesh.Iter P g cap h enc items) (hl : le h h') : Go.Mesh.Iter P g cap h' enc items :=
  fun l J Jx h0 L0 hl' => x l J Jx h0 L0 (le_trans hl hl')
theorem flights_s {h : Frag} {cs : List Value} {vs : List View} (hf : FleetC h vs cs) : PSpec Tryz.prog 34 #[.agg cs.toArray] h (fun h' v => ∃ b, v = .func (.func 77) #[] #[ptr b 0] ∧ Go.Mesh.Iter Tryz.prog 77 #[ptr b 0] h' FlEnc (flightsOf vs)) := by
  refine pspec_of (vs := [.agg cs.toArray]) Tryz.func34 Tryz.ntmps34 rfl rfl ?_
  (focus (refine WP_seq ?_; refine R_region ?_; refine S_c rfl rfl rfl (C_box rfl rfl ?_); intro b0_1; refine S_q rfl rfl rfl (Q_assign rfl rfl) ?_; refine OPS_nil ?_; refine then_n ?_; refine WP_seq ?_; refine R_region ?_; refine S_q rfl rfl rfl (Q_makeFunc rfl rfl ⟨_, _, rfl, rfl, rfl⟩) ?_; refine S_q rfl rfl rfl (Q_assign rfl rfl) ?_; refine OPS_nil ?_; refine then_n ?_; refine WP_ret ?_))
  refine pretKM [] [_] _ rfl (.inl rfl) rfl ⟨_, _, rfl, rfl, rfl⟩ fun h' hl' hm => ⟨b0_1, rfl, ?_⟩
  exact flights1_s (at_of_keep hm) (hf.up hl')
def BkEnc (h : Frag) (n : Nd) (vals : Array Value) : Prop := ∃ i us, vals = [Value.int .i64 i, .agg us.toArray].toArray ∧ us.length = 5 ∧ ones us = true ∧ NodeC 4398046511104 h n us
theorem bk_prefix {α : Type} {xs : List α} {k : Nat} {x : α} (hx : xs[k]? = some x) : (xs.drop (k + 1)).reverse ++ [x] = (xs.drop k).reverse ∧ (xs.drop k).reverse <+: xs.reverse := by
  refine ⟨by rw [drop_get hx]; simp, (xs.take k).reverse, ?_⟩
  rw [← List.reverse_append, List.take_append_drop]
theorem backward1_s {h : Frag} {b : Nat} {a : Value} {xs : List Nd} (hb : At h b 0 [a]) (hs : SL h 5 (NodeC 4398046511104) a xs) : Go.Mesh.Iter Tryz.prog 120 #[ptr b 0] h BkEnc xs.reverse := by
  intro l J Jx h0 L0 hl hy hj
  (replace hb := hb.up hl; replace hs := hs.up hl)
  have hxl := hs.le
  rw [show L0 = L0 ++ [] from (List.append_nil _).symm]
  refine spec_of (vs := [.func (.yield l) #[] #[], ptr b 0]) Tryz.func120 Tryz.ntmps120 rfl rfl rfl ?_
  (focus (refine WP_seq ?_; refine R_region ?_; refine S_load rfl rfl rfl rfl rfl ?_; refine L_one (Rd.pers (by assumption)) (ty rfl) ?_; refine S_q rfl rfl rfl (Q_lenS rfl rfl rfl rfl rfl rfl (by assumption)) ?_; refine S_q rfl rfl rfl (Q_sub rfl rfl rfl (by omega)) ?_; refine S_q rfl rfl rfl (Q_assign rfl rfl) ?_; refine OPS_nil ?_; refine then_n ?_; refine WP_block ?_))
  (refine WP_loopM (α := Nat × Hp) []  _ [0, 1] (fun (s : Nat × Hp) => s.1) (fun (s : Nat × Hp) =>  s.2) (fun (s : Nat × Hp) => [(3, .int .i64 ((s.1 : Int) - 1))]) (fun hh (s : Nat × Hp) => le h0 hh ∧ s.1 ≤ xs.length ∧ J (xs.drop s.1).reverse hh s.2) (xs.length, L0) rfl ⟨_, _, rfl, ⟨_, _, rfl, rfl, rfl⟩, rfl⟩ (by repeat' (first | exact trivial | refine ⟨rfl, ?_⟩)) ?_ ?_)
  · exact ⟨le_refl _, Nat.le_refl _, by simpa using hj⟩
  rintro h1 ⟨k, Lx⟩ - ⟨hl1, hk, hJ⟩
  simp only at hk hJ
  dsimp only
  (replace hb := hb.up hl1; replace hs := hs.up hl1)
  by_cases hlt : 0 < k
  · obtain ⟨j, rfl⟩ : ∃ j, k = j + 1 := ⟨k - 1, by omega⟩
    obtain ⟨x, ex⟩ := get_of (xs := xs) (k := j) (by omega)
    obtain ⟨hp1, hp2⟩ := bk_prefix ex
    (focus (refine WP_seq ?_; refine WP_seq ?_; refine R_region ?_; refine S_q rfl rfl rfl (Q_move rfl rfl) ?_; refine S_q rfl rfl rfl (Q_cmp rfl rfl rfl rfl) ?_; refine OPS_nil ?_; refine then_n ?_; refine WP_cond rfl (fun c4_1 => ?_) (fun c4_1 => ?_) <;> (first | (simp [*] at c4_1; done) | (try simp at c4_1)); refine WP_skip ?_; refine then_n ?_; refine WP_seq ?_; refine WP_block ?_; refine WP_seq ?_; refine R_region ?_; refine S_q rfl rfl rfl (Q_move rfl rfl) ?_; refine S_q rfl rfl rfl (Q_move rfl rfl) ?_; refine S_load rfl rfl rfl rfl rfl ?_; refine L_one (Rd.pers (by assumption)) (ty rfl) ?_; refine S_q rfl rfl rfl (Q_move rfl rfl) ?_; refine S_q rfl rfl rfl (Q_indexS (by assumption) (by assumption) rfl rfl rfl (elm rfl) (by omega)) ?_; refine S_load rfl rfl rfl rfl rfl ?_; refine L_elA (by assumption) (by assumption) (ty rfl) ?_; rintro _ _ _ ⟨pn4_2, qn4_2, rfl, fn4_2⟩))
    refine S_w rfl rfl rfl (W_yield [] _ (hy (xs.drop (j + 1)).reverse x _ h1 Lx hl1 hJ (by rw [hp1]; exact hp2) ⟨_, _, rfl, rfl, by assumption, _, _, rfl, fn4_2⟩) rfl rfl rfl ⟨_, _, rfl, ⟨_, _, rfl, rfl, rfl⟩, rfl⟩ rfl ?_)
    rintro h3 M' _ hl3 (⟨rfl, hJ'⟩ | ⟨rfl, hx'⟩)
    · (focus (refine S_q rfl rfl rfl (Q_not rfl rfl) ?_; refine OPS_nil ?_; refine then_n ?_; refine cond_f rfl ?_; refine WP_skip ?_; refine block_n ?_; refine then_n ?_; refine R_region ?_; refine S_q rfl rfl rfl (Q_move rfl rfl) ?_; refine S_q rfl rfl rfl (Q_sub rfl rfl rfl (by omega)) ?_; refine S_q rfl rfl rfl (Q_assign rfl rfl) ?_; refine OPS_nil ?_))
      refine roundF_n (j, M') (by simp only; omega) ⟨le_trans hl1 hl3, by simp only; omega, by simp only; rw [← hp1]; exact hJ'⟩ (by repeat' (first | exact List.Sublist.refl _ | exact List.sublist_append_left _ _ | exact List.nil_sublist _ | apply List.Sublist.cons₂ | apply List.Sublist.cons)) ⟨?_, (by repeat' (first | exact trivial | refine ⟨rfl, ?_⟩))⟩
      rw [show ((j : Int) - 1) = ((j + 1 : Nat) : Int) - 1 - 1 by omega]; rfl
    · (focus (refine S_q rfl rfl rfl (Q_not rfl rfl) ?_; refine OPS_nil ?_; refine then_n ?_; refine cond_t rfl ?_; refine WP_ret ?_; refine block_r ?_; refine then_r ?_; refine roundF_r ?_; refine block_r ?_))
      exact ret_q M' (.inl rfl) rfl rfl (by repeat' (first | exact List.Sublist.refl _ | exact List.sublist_append_left _ _ | exact List.nil_sublist _ | apply List.Sublist.cons₂ | apply List.Sublist.cons)) (.inr hx')
  · have hge : k = 0 := by omega
    subst hge
    (focus (refine WP_seq ?_; refine WP_seq ?_; refine R_region ?_; refine S_q rfl rfl rfl (Q_move rfl rfl) ?_; refine S_q rfl rfl rfl (Q_cmp rfl rfl rfl rfl) ?_; refine OPS_nil ?_; refine then_n ?_; refine cond_f rfl ?_; refine WP_exit ?_; refine then_e ?_; refine roundF_e ?_; refine block_e ?_))
    exact ret_q Lx (.inr rfl) rfl rfl (by repeat' (first | exact List.Sublist.refl _ | exact List.sublist_append_left _ _ | exact List.nil_sublist _ | apply List.Sublist.cons₂ | apply List.Sublist.cons)) (.inl (by simpa using hJ))
theorem backward_s {h : Frag} {a : Value} {xs : List Nd} (hs : SL h 5 (NodeC 4398046511104) a xs) : PSpec Tryz.prog 82 #[a] h (fun h' v => ∃ b, v = .func (.func 120) #[] #[ptr b 0] ∧ Go.Mesh.Iter Tryz.prog 120 #[ptr b 0] h' BkEnc xs.reverse) := by
  obtain ⟨p, c, rfl⟩ := hs.slice
  refine pspec_of (vs := [.slice p xs.length c]) Tryz.func82 Tryz.ntmps82 rfl rfl ?_
  (focus (refine WP_seq ?_; refine R_region ?_; refine S_c rfl rfl rfl (C_box1 rfl rfl rfl ?_); intro b0_1; refine S_q rfl rfl rfl (Q_assign rfl rfl) ?_; refine OPS_nil ?_; refine then_n ?_; refine WP_seq ?_; refine R_region ?_; refine S_q rfl rfl rfl (Q_makeFunc rfl rfl ⟨_, _, rfl, rfl, rfl⟩) ?_; refine S_q rfl rfl rfl (Q_assign rfl rfl) ?_; refine OPS_nil ?_; refine then_n ?_; refine WP_ret ?_))
  refine pretKM [] [_] _ rfl (.inl rfl) rfl ⟨_, _, rfl, rfl, rfl⟩ fun h' hl' hm => ⟨b0_1, rfl, ?_⟩
  exact backward1_s (at_of_keep hm) (hs.up hl')
end Go.Proofs.YtfhoecgiahpddaaGreat
