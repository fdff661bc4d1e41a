/-
  Part C of the proof's ground: Fh, Rules5, Shelf, Sort, Sort2, Fi, Fj, Fk, Ua, Fl, Ub, Rules6, Pa, Ra, Oa, Gb, Gc, Ob, Rules7, Draws2.
-/
import Derived.Shelf.SlSortCmp.WholeK
import Derived.Shelf.SlSortCmp.NoneTotal
import Derived.Lib.AppendZeros
import Derived.Test.YtfhoecgiahpddaaGreatMjA
import Derived.Test.YtfhoecgiahpddaaGreatMjB
/-
  CONTRACTS: the flights on their way, one after the other; a slice backwards.
-/
set_option linter.all false
namespace Go.Proofs.YtfhoecgiahpddaaGreat
open Go.Mesh Go.RowKit
set_option maxRecDepth 100000
set_option linter.unusedVariables false
set_option maxHeartbeats 4000000
attribute [local irreducible] WP OPS ANY ANYo LG LV FSpec PSpec QOP OPc OPw thenQ blockQ roundQ roundF retQ retM Rd At SLB OS cmpI orI cmpID namedB valB nodeB kindB validG valAux idxI findG zeroV viewOf vwAt idxOf recv flyB scionOf moveOf numberedOf idOf valueOf mget mput localB carriedB stubOf followF followOf
def flOf (vs : List View) (v : View) : List (View × Flight) := (v.flights.filter (flyB vs v)).map fun x => (v, x)
def flightsOf (vs : List View) : List (View × Flight) := vs.flatMap (flOf vs)
def FlEnc (h : Frag) (i : View × Flight) (vals : Array Value) : Prop := ∃ us ws, vals = [Value.agg us.toArray, .agg ws.toArray].toArray ∧ us.length = 13 ∧ ones us = true ∧ ViewC 4398046511104 h i.1 us ∧ ws.length = 41 ∧ ones ws = true ∧ FlightC 4398046511104 h i.2 ws
/-- what has come before the flight j of the view k -/
def flPre (vs : List View) (k j : Nat) (v : View) : List (View × Flight) := (vs.take k).flatMap (flOf vs) ++ ((v.flights.take j).filter (flyB vs v)).map fun x => (v, x)
theorem flPre_zero (vs : List View) (k : Nat) (v : View) : flPre vs k 0 v = (vs.take k).flatMap (flOf vs) := by simp [flPre]
theorem flPre_yes {vs : List View} {k j : Nat} {v : View} {x : Flight} (hx : v.flights[j]? = some x) (hf : flyB vs v x = true) : flPre vs k (j + 1) v = flPre vs k j v ++ [(v, x)] := by
  simp [flPre, List.take_add_one, hx, hf]
theorem flPre_no {vs : List View} {k j : Nat} {v : View} {x : Flight} (hx : v.flights[j]? = some x) (hf : flyB vs v x = false) : flPre vs k (j + 1) v = flPre vs k j v := by
  simp [flPre, List.take_add_one, hx, hf]
theorem flPre_end {vs : List View} {k : Nat} {v : View} (hv : vs[k]? = some v) : flPre vs k v.flights.length v = (vs.take (k + 1)).flatMap (flOf vs) := by
  simp [flPre, List.take_add_one, hv, flOf]
theorem flPre_prefix {vs : List View} {k j : Nat} {v : View} {x : Flight} (hv : vs[k]? = some v) (hx : v.flights[j]? = some x) (hf : flyB vs v x = true) : (flPre vs k j v ++ [(v, x)]) <+: flightsOf vs := by
  rw [← flPre_yes hx hf]
  refine ⟨((v.flights.drop (j + 1)).filter (flyB vs v)).map (fun x => (v, x)) ++ (vs.drop (k + 1)).flatMap (flOf vs), ?_⟩
  have h1 : flOf vs v = ((v.flights.take (j + 1)).filter (flyB vs v)).map (fun x => (v, x)) ++ ((v.flights.drop (j + 1)).filter (flyB vs v)).map (fun x => (v, x)) := by
    rw [← List.map_append, ← List.filter_append, List.take_append_drop, flOf]
  have h2 : flightsOf vs = (vs.take k).flatMap (flOf vs) ++ (flOf vs v ++ (vs.drop (k + 1)).flatMap (flOf vs)) := by
    have key : ∀ f : View → List (View × Flight), vs.flatMap f = (vs.take k).flatMap f ++ (f v ++ (vs.drop (k + 1)).flatMap f) := fun f => by
      conv => lhs; rw [← List.take_append_drop k vs, drop_get hv]
      simp
    exact key _
  rw [h2, h1, flPre]; simp
attribute [local irreducible] flOf flightsOf flPre
theorem flights1_s {h : Frag} {b : Nat} {cs : List Value} {vs : List View} (hb : At h b 0 cs) (hf : FleetC h vs cs) : Iter Tryz.prog 77 #[ptr b 0] h FlEnc (flightsOf vs) := by
  intro l J Jx h0 L0 hl hy hj
  replace hb := hb.up hl
  replace hf := hf.up hl
  obtain ⟨p, c, mb, ps, rfl, fv, fm, fq⟩ := hf
  have hf : FleetC h0 vs [.slice p vs.length c, .map (some mb)] := ⟨p, c, mb, ps, rfl, fv, fm, fq⟩
  clear fq fm
  have hvl := fv.le
  rw [show L0 = L0 ++ [] from (List.append_nil _).symm]
  refine spec_of (vs := [.func (.yield l) #[] #[], ptr b 0]) Tryz.func77 Tryz.ntmps77 rfl rfl rfl ?_
  (focus (refine Wr ?_; refine Tf ?_; refine Tl ?_; refine L_fld (Rd.pers ‹_›) (ty rfl) rfl ?_; refine Tlen ?_; refine Tm ?_; refine On ?_; refine WP_block ?_))
  (refine WP_loopM (α := Nat × Hp) []  _ [9, 8, 0, 1] (fun (s : Nat × Hp) => vs.length - s.1) (fun (s : Nat × Hp) =>  s.2) (fun (s : Nat × Hp) => [(10, .int .i64 s.1)]) (fun hh (s : Nat × Hp) => le h0 hh ∧ s.1 ≤ vs.length ∧ J ((vs.take s.1).flatMap (flOf vs)) hh s.2) (0, L0) rfl ⟨_, _, rfl, ⟨_, _, rfl, ⟨_, _, rfl, ⟨_, _, rfl, rfl, rfl⟩, rfl⟩, rfl⟩, rfl⟩ (by repeat' first | exact trivial | refine ⟨rfl, ?_⟩) ?_ ?_)
  · exact ⟨le_refl _, Nat.zero_le _, hj⟩
  rintro h1 ⟨k, Lx⟩ - ⟨hl1, hk, hJ⟩
  simp only at hk hJ
  dsimp only
  (replace hb := hb.up hl1; replace fv := fv.up hl1; replace hf := hf.up hl1)
  by_cases hlt : k < vs.length
  · obtain ⟨v, ev⟩ := get_of hlt
    rw [← flPre_zero vs k v] at hJ
    (focus (refine Wr ?_; refine Tc ?_; refine On ?_; refine WP_seq ?_; refine Wc ?_ ?_ <;> intro c3_1 <;> (first | simp [*] at c3_1; done | try simp at c3_1); refine WP_skip ?_; refine then_n ?_; refine WP_seq ?_; refine WP_block ?_; refine Wr ?_; refine Ti ?_; refine Tl ?_; refine Le ?_; rintro _ _ _ ⟨xi3_2, xa3_2, po3_2, qo3_2, ps3_2, qs3_2, pc3_2, qc3_2, pn3_2, qn3_2, pm3_2, qm3_2, xw3_2, xv3_2, pf3_2, qf3_2, pr3_2, qr3_2, xe3_2, xf3_2, rfl, vo3_2, vs3_2, vc3_2, vn3_2, vm3_2, vf3_2, vr3_2⟩; refine Tal ?_; intro b3_3; refine Tw u0 ?_; refine On ?_; refine Wr ?_; refine Tf ?_; refine Tl ?_; refine Lo m0 ?_; refine Tlen ?_; refine Tm ?_; refine On ?_; refine WP_block ?_))
    (refine WP_loopM (α := Nat × Hp) [_]  _ [16, 15, 4, 10, 9, 8, 0, 1] (fun (s : Nat × Hp) => v.flights.length - s.1) (fun (s : Nat × Hp) =>  s.2) (fun (s : Nat × Hp) => [(17, .int .i64 s.1)]) (fun hh (s : Nat × Hp) => le h1 hh ∧ s.1 ≤ v.flights.length ∧ J (flPre vs k s.1 v) hh s.2) (0, Lx) rfl ⟨_, _, rfl, ⟨_, _, rfl, ⟨_, _, rfl, ⟨_, _, rfl, ⟨_, _, rfl, ⟨_, _, rfl, ⟨_, _, rfl, ⟨_, _, rfl, rfl, rfl⟩, rfl⟩, rfl⟩, rfl⟩, rfl⟩, rfl⟩, rfl⟩, rfl⟩ (by repeat' first | exact trivial | refine ⟨rfl, ?_⟩) ?_ ?_)
    · exact ⟨le_refl _, Nat.zero_le _, hJ⟩
    have hfl := vf3_2.le
    clear hJ Lx
    rintro h2 ⟨j, Lx⟩ - ⟨hl2, hj2, hJ⟩
    simp only at hj2 hJ
    dsimp only
    (replace hb := hb.up hl2; replace fv := fv.up hl2; replace hf := hf.up hl2; replace vo3_2 := vo3_2.up hl2; replace vs3_2 := vs3_2.up hl2; replace vc3_2 := vc3_2.up hl2; replace vn3_2 := vn3_2.up hl2; replace vm3_2 := vm3_2.up hl2; replace vf3_2 := vf3_2.up hl2; replace vr3_2 := vr3_2.up hl2)
    by_cases hlt2 : j < v.flights.length
    · obtain ⟨x, ex⟩ := get_of hlt2
      (focus (refine Wr ?_; refine Tc ?_; refine On ?_; refine WP_seq ?_; refine Wc ?_ ?_ <;> intro c6_1 <;> (first | simp [*] at c6_1; done | try simp at c6_1); refine WP_skip ?_; refine then_n ?_; refine WP_seq ?_; refine WP_block ?_; refine Wr ?_; refine Ti ?_; refine Tl ?_; refine Le ?_; rintro _ _ _ ⟨xa6_2, xb6_2, xc6_2, xd6_2, xe6_2, pa6_2, qa6_2, pf6_2, qf6_2, pm6_2, qm6_2, xw6_2, y16_2, y26_2, y36_2, y46_2, y56_2, y66_2, y76_2, y86_2, y96_2, y106_2, y116_2, y126_2, y136_2, y146_2, y156_2, rfl, ha6_2, hf6_2, hm6_2⟩; refine Tal ?_; intro b6_3; refine Tw u0 ?_; refine On ?_; refine Wr ?_; refine Tl ?_; refine Lp ?_; refine Tl ?_; refine Lg m1 ?_; refine Tl ?_; refine Lg m0 ?_; refine S_c rfl rfl rfl (C_callv (flying_s ‹_› ⟨by assumption, _, _, _, _, _, _, _, _, _, _, _, _, _, _, _, _, _, _, _, rfl, by assumption, by assumption, by assumption, by assumption, by assumption, by assumption, by assumption⟩ ⟨_, _, _, _, _, _, _, _, _, _, _, _, _, _, _, _, _, _, _, _, _, _, _, _, _, _, _, rfl, by assumption, by assumption, by assumption⟩) rfl rfl ⟨_, _, rfl, ⟨_, _, rfl, ⟨_, _, rfl, rfl, rfl⟩, rfl⟩, rfl⟩ (cal rfl) ?_); refine Tm ?_; refine Ugs ?_ ?_ <;> intro c6_4 <;> (first | simp [*] at c6_4; done | try simp at c6_4); (focus (refine Ugm ?_; refine Ugl ?_; refine Lg m1 ?_; refine Ugl ?_; refine Lg m0 ?_)); rotate_left 1; (focus (refine Tn ?_; refine Tn ?_; refine Tn ?_; refine Tn ?_; refine Tn ?_; refine Tp0 ?_; refine On ?_; refine cond_f rfl ?_; refine WP_skip ?_; refine block_n ?_; refine then_n ?_; refine R_region ?_; refine Ta ?_; refine Tm ?_; refine OPS_nil ?_)); rotate_left 1))
      · refine S_gw rfl rfl rfl rfl rfl rfl (W_yield [_, _] _ (hy (flPre vs k j v) (v, x) _ h2 Lx (le_trans hl1 hl2) hJ (flPre_prefix ev ex c6_4) ⟨_, _, rfl, rfl, by assumption, ⟨xi3_2, _, _, _, _, _, _, _, _, _, _, _, _, _, _, _, _, _, _, _, rfl, vo3_2, vs3_2, vc3_2, vn3_2, vm3_2, vf3_2, vr3_2⟩, rfl, by assumption, ⟨_, _, _, _, _, _, _, _, _, _, _, _, _, _, _, _, _, _, _, _, _, _, _, _, _, _, _, rfl, by assumption, by assumption, by assumption⟩⟩) rfl rfl rfl ⟨_, _, rfl, ⟨_, _, rfl, rfl, rfl⟩, rfl⟩ rfl ?_)
        rintro h3 M' _ hl3 (⟨rfl, hJ'⟩ | ⟨rfl, hx'⟩)
        · (focus (refine S_gq rfl rfl rfl rfl rfl rfl (Q_not rfl rfl) ?_; refine Tp1 ?_; refine On ?_; refine cond_f rfl ?_; refine WP_skip ?_; refine block_n ?_; refine then_n ?_; refine R_region ?_; refine Ta ?_; refine Tm ?_; refine OPS_nil ?_))
          exact roundF_n (j + 1, M') (by simp only; omega) ⟨le_trans hl2 hl3, by simp only; omega, by simp only; rw [flPre_yes ex c6_4]; exact hJ'⟩ (by repeat' first | exact sR _ | exact sA _ _ | exact sN _ | apply s2 | apply s1) (by repeat' first | exact trivial | refine ⟨rfl, ?_⟩)
        · (focus (refine S_gq rfl rfl rfl rfl rfl rfl (Q_not rfl rfl) ?_; refine Tp1 ?_; refine On ?_; refine cond_t rfl ?_; refine WP_ret ?_; refine block_r ?_; refine then_r ?_; refine roundF_r ?_; refine block_r ?_; refine block_r ?_; refine then_r ?_; refine roundF_r ?_; refine block_r ?_))
          exact ret_q M' (.inl rfl) rfl rfl (by repeat' first | exact sR _ | exact sA _ _ | exact sN _ | apply s2 | apply s1) (.inr hx')
      · exact roundF_n (j + 1, Lx) (by simp only; omega) ⟨hl2, by simp only; omega, by simp only; rw [flPre_no ex c6_4]; exact hJ⟩ (by repeat' first | exact sR _ | exact sA _ _ | exact sN _ | apply s2 | apply s1) (by repeat' first | exact trivial | refine ⟨rfl, ?_⟩)
    · have hge : j = v.flights.length := by omega
      subst hge
      rw [flPre_end ev] at hJ
      (focus (refine Wr ?_; refine Tc ?_; refine On ?_; refine WP_seq ?_; refine Wc ?_ ?_ <;> intro c9_1 <;> (first | simp [*] at c9_1; done | try simp at c9_1); refine WP_exit ?_; refine then_e ?_; refine roundF_e ?_; refine block_e ?_; refine block_n ?_; refine then_n ?_; refine R_region ?_; refine Ta ?_; refine Tm ?_; refine OPS_nil ?_))
      exact roundF_n (k + 1, Lx) (by simp only; omega) ⟨le_trans hl1 hl2, by simp only; omega, hJ⟩ (by repeat' first | exact sR _ | exact sA _ _ | exact sN _ | apply s2 | apply s1) (by repeat' first | exact trivial | refine ⟨rfl, ?_⟩)
  · have hge : k = vs.length := by omega
    subst hge
    rw [List.take_length] at hJ
    (focus (refine Wr ?_; refine Tc ?_; refine On ?_; refine WP_seq ?_; refine Wc ?_ ?_ <;> intro c10_1 <;> (first | simp [*] at c10_1; done | try simp at c10_1); refine WP_exit ?_; refine then_e ?_; refine roundF_e ?_; refine block_e ?_))
    exact ret_q Lx (.inr rfl) rfl rfl (by simp) (.inl (by rw [flightsOf]; exact hJ))
theorem Iter.up {α : Type} {P : Program} {g : FuncId} {cap : Array Value} {h h' : Frag} {enc : Frag → α → Array Value → Prop} {items : List α} (x : Go.Mesh.Iter P g cap h enc items) (hl : le h h') : Go.Mesh.Iter P g cap h' enc items :=
  fun l J Jx h0 L0 hl' => x l J Jx h0 L0 (le_trans hl hl')
theorem flights_s {h : Frag} {cs : List Value} {vs : List View} (hf : FleetC h vs cs) : PSpec Tryz.prog 34 #[.agg cs.toArray] h (fun h' v => ∃ b, v = .func (.func 77) #[] #[ptr b 0] ∧ Go.Mesh.Iter Tryz.prog 77 #[ptr b 0] h' FlEnc (flightsOf vs)) := by
  refine pspec_of (vs := [.agg cs.toArray]) Tryz.func34 Tryz.ntmps34 rfl rfl ?_
  (focus (refine Wr ?_; refine Tbx ?_; intro b0_1; refine Tm ?_; refine On ?_; refine Wr ?_; refine S_q rfl rfl rfl (Q_makeFunc rfl rfl ⟨_, _, rfl, rfl, rfl⟩) ?_; refine Tm ?_; refine On ?_; refine WP_ret ?_))
  refine pretKM [] [_] _ rfl (.inl rfl) rfl ⟨_, _, rfl, rfl, rfl⟩ fun h' hl' hm => ⟨b0_1, rfl, ?_⟩
  exact flights1_s (at_of_keep hm) (hf.up hl')
def BkEnc (h : Frag) (n : Nd) (vals : Array Value) : Prop := ∃ i us, vals = [Value.int .i64 i, .agg us.toArray].toArray ∧ us.length = 5 ∧ ones us = true ∧ NodeC 4398046511104 h n us
theorem bk_prefix {α : Type} {xs : List α} {k : Nat} {x : α} (hx : xs[k]? = some x) : (xs.drop (k + 1)).reverse ++ [x] = (xs.drop k).reverse ∧ (xs.drop k).reverse <+: xs.reverse := by
  refine ⟨by rw [drop_get hx]; simp, (xs.take k).reverse, ?_⟩
  rw [← List.reverse_append, List.take_append_drop]
theorem backward1_s {h : Frag} {b : Nat} {a : Value} {xs : List Nd} (hb : At h b 0 [a]) (hs : SL h 5 (NodeC 4398046511104) a xs) : Go.Mesh.Iter Tryz.prog 120 #[ptr b 0] h BkEnc xs.reverse := by
  intro l J Jx h0 L0 hl hy hj
  (replace hb := hb.up hl; replace hs := hs.up hl)
  have hxl := hs.le
  rw [show L0 = L0 ++ [] from (List.append_nil _).symm]
  refine spec_of (vs := [.func (.yield l) #[] #[], ptr b 0]) Tryz.func120 Tryz.ntmps120 rfl rfl rfl ?_
  (focus (refine Wr ?_; refine Tl ?_; refine L_one (Rd.pers ‹_›) (ty rfl) ?_; refine S_q rfl rfl rfl (Q_lenS rfl rfl rfl rfl rfl rfl ‹_›) ?_; refine S_q rfl rfl rfl (Q_sub rfl rfl rfl (by omega)) ?_; refine Tm ?_; refine On ?_; refine WP_block ?_))
  (refine WP_loopM (α := Nat × Hp) []  _ [0, 1] (fun (s : Nat × Hp) => s.1) (fun (s : Nat × Hp) =>  s.2) (fun (s : Nat × Hp) => [(3, .int .i64 ((s.1 : Int) - 1))]) (fun hh (s : Nat × Hp) => le h0 hh ∧ s.1 ≤ xs.length ∧ J (xs.drop s.1).reverse hh s.2) (xs.length, L0) rfl ⟨_, _, rfl, ⟨_, _, rfl, rfl, rfl⟩, rfl⟩ (by repeat' first | exact trivial | refine ⟨rfl, ?_⟩) ?_ ?_)
  · exact ⟨le_refl _, Nat.le_refl _, by simpa using hj⟩
  rintro h1 ⟨k, Lx⟩ - ⟨hl1, hk, hJ⟩
  simp only at hk hJ
  dsimp only
  (replace hb := hb.up hl1; replace hs := hs.up hl1)
  by_cases hlt : 0 < k
  · obtain ⟨j, rfl⟩ : ∃ j, k = j + 1 := ⟨k - 1, by omega⟩
    obtain ⟨x, ex⟩ := get_of (xs := xs) (k := j) (by omega)
    obtain ⟨hp1, hp2⟩ := bk_prefix ex
    (focus (refine WP_seq ?_; refine Wr ?_; refine Tm ?_; refine Tc ?_; refine On ?_; refine Wc ?_ ?_ <;> intro c4_1 <;> (first | simp [*] at c4_1; done | try simp at c4_1); refine WP_skip ?_; refine then_n ?_; refine WP_seq ?_; refine WP_block ?_; refine Wr ?_; refine Tm ?_; refine Tm ?_; refine Tl ?_; refine L_one (Rd.pers ‹_›) (ty rfl) ?_; refine Tm ?_; refine S_q rfl rfl rfl (Q_indexS ‹_› ‹_› rfl rfl rfl (elm rfl) (by omega)) ?_; refine Tl ?_; refine Le ?_; rintro _ _ _ ⟨pn4_2, qn4_2, rfl, fn4_2⟩))
    refine S_w rfl rfl rfl (W_yield [] _ (hy (xs.drop (j + 1)).reverse x _ h1 Lx hl1 hJ (by rw [hp1]; exact hp2) ⟨_, _, rfl, rfl, by assumption, _, _, rfl, fn4_2⟩) rfl rfl rfl ⟨_, _, rfl, ⟨_, _, rfl, rfl, rfl⟩, rfl⟩ rfl ?_)
    rintro h3 M' _ hl3 (⟨rfl, hJ'⟩ | ⟨rfl, hx'⟩)
    · (focus (refine S_q rfl rfl rfl (Q_not rfl rfl) ?_; refine On ?_; refine cond_f rfl ?_; refine WP_skip ?_; refine block_n ?_; refine then_n ?_; refine R_region ?_; refine Tm ?_; refine S_q rfl rfl rfl (Q_sub rfl rfl rfl (by omega)) ?_; refine Tm ?_; refine OPS_nil ?_))
      refine roundF_n (j, M') (by simp only; omega) ⟨le_trans hl1 hl3, by simp only; omega, by simp only; rw [← hp1]; exact hJ'⟩ (by repeat' first | exact sR _ | exact sA _ _ | exact sN _ | apply s2 | apply s1) ⟨?_, (by repeat' first | exact trivial | refine ⟨rfl, ?_⟩)⟩
      rw [show ((j : Int) - 1) = ((j + 1 : Nat) : Int) - 1 - 1 by omega]; rfl
    · (focus (refine S_q rfl rfl rfl (Q_not rfl rfl) ?_; refine On ?_; refine cond_t rfl ?_; refine WP_ret ?_; refine block_r ?_; refine then_r ?_; refine roundF_r ?_; refine block_r ?_))
      exact ret_q M' (.inl rfl) rfl rfl (by repeat' first | exact sR _ | exact sA _ _ | exact sN _ | apply s2 | apply s1) (.inr hx')
  · have hge : k = 0 := by omega
    subst hge
    (focus (refine WP_seq ?_; refine Wr ?_; refine Tm ?_; refine Tc ?_; refine On ?_; refine cond_f rfl ?_; refine WP_exit ?_; refine then_e ?_; refine roundF_e ?_; refine block_e ?_))
    exact ret_q Lx (.inr rfl) rfl rfl (by repeat' first | exact sR _ | exact sA _ _ | exact sN _ | apply s2 | apply s1) (.inl (by simpa using hJ))
theorem backward_s {h : Frag} {a : Value} {xs : List Nd} (hs : SL h 5 (NodeC 4398046511104) a xs) : PSpec Tryz.prog 82 #[a] h (fun h' v => ∃ b, v = .func (.func 120) #[] #[ptr b 0] ∧ Go.Mesh.Iter Tryz.prog 120 #[ptr b 0] h' BkEnc xs.reverse) := by
  obtain ⟨p, c, rfl⟩ := hs.slice
  refine pspec_of (vs := [.slice p xs.length c]) Tryz.func82 Tryz.ntmps82 rfl rfl ?_
  (focus (refine Wr ?_; refine S_c rfl rfl rfl (C_box1 rfl rfl rfl ?_); intro b0_1; refine Tm ?_; refine On ?_; refine Wr ?_; refine S_q rfl rfl rfl (Q_makeFunc rfl rfl ⟨_, _, rfl, rfl, rfl⟩) ?_; refine Tm ?_; refine On ?_; refine WP_ret ?_))
  refine pretKM [] [_] _ rfl (.inl rfl) rfl ⟨_, _, rfl, rfl, rfl⟩ fun h' hl' hm => ⟨b0_1, rfl, ?_⟩
  exact backward1_s (at_of_keep hm) (hs.up hl')
end Go.Proofs.YtfhoecgiahpddaaGreat
/-
  SLICES OF IDENTITIES THAT ARE WRITTEN IN PLACE: an owned block that holds a list of identities, read, written, cut and cleared.
-/
set_option linter.all false
namespace Go.Mesh
open Go.RowKit
set_option linter.unusedVariables false
def flatI (xs : List ID) : List Value := xs.flatMap idc
theorem flatI_length (xs : List ID) : (flatI xs).length = xs.length * 2 := by
  induction xs with
  | nil => rfl
  | cons x xs ih => simp only [flatI, List.flatMap_cons, List.length_append] at *; rw [ih]; simp [idc]; omega
theorem flatI_append (xs ys : List ID) : flatI (xs ++ ys) = flatI xs ++ flatI ys := by simp [flatI]
theorem flatI_take (xs : List ID) (j : Nat) : flatI (xs.take j) = (flatI xs).take (j * 2) := by
  induction xs generalizing j with
  | nil => simp [flatI]
  | cons x xs ih =>
    cases j with
    | zero => simp [flatI]
    | succ j =>
      have := ih j
      simp only [flatI, List.take_succ_cons, List.flatMap_cons] at *
      rw [this, show (j + 1) * 2 = j * 2 + 2 by omega]
      rfl
theorem flatI_drop (xs : List ID) (j : Nat) : flatI (xs.drop j) = (flatI xs).drop (j * 2) := by
  have h1 : flatI xs = flatI (xs.take j) ++ flatI (xs.drop j) := by rw [← flatI_append, List.take_append_drop]
  rw [flatI_take] at h1
  by_cases hj : j ≤ xs.length
  · have hl : ((flatI xs).take (j * 2)).length = j * 2 := by rw [List.length_take, flatI_length]; omega
    conv => rhs; rw [h1, List.drop_append, hl]
    simp
  · rw [List.drop_eq_nil_of_le (by omega), List.drop_eq_nil_of_le (by rw [flatI_length]; omega)]; rfl
theorem flatI_get {xs : List ID} {j : Nat} {x : ID} (hx : xs[j]? = some x) : (flatI xs).drop (j * 2) = idc x ++ flatI (xs.drop (j + 1)) := by
  obtain ⟨h1, h2⟩ := List.getElem?_eq_some_iff.1 hx
  rw [← flatI_drop, List.drop_eq_getElem_cons h1, h2]; rfl
theorem flatI_set {xs : List ID} {j : Nat} (y : ID) (hj : j < xs.length) (rest : List Value) : putAt (flatI xs ++ rest) (j * 2) (idc y) = flatI (xs.set j y) ++ rest := by
  have hl := flatI_length xs
  have hlen : (idc y).length = 2 := rfl
  rw [List.set_eq_take_append_cons_drop, if_pos hj, flatI_append, putAt, hlen, List.take_append_of_le_length (by omega), List.drop_append_of_le_length (by omega), flatI_take]
  have : flatI (y :: xs.drop (j + 1)) = idc y ++ flatI (xs.drop (j + 1)) := rfl
  rw [this, flatI_drop, show (j + 1) * 2 = j * 2 + 2 by omega]
  simp
theorem Flat_id {h : Frag} {xs : List ID} {us : List Value} : Flat h 2 IDC xs us ↔ us = flatI xs := by
  induction xs generalizing us with
  | nil => exact Iff.rfl
  | cons x xs ih =>
    constructor
    · rintro ⟨vs, ws, rfl, _, _, rfl, hf⟩
      rw [ih.1 hf]; rfl
    · rintro rfl
      exact ⟨idc x, flatI xs, rfl, rfl, rfl, rfl, ih.2 rfl⟩
theorem OS.parts {h : Frag} {v : Value} {xs : List ID} {M : Hp} (s : OS h 35 2 IDC v xs M) (h0 : 0 < xs.length) : ∃ b cap rest, v = .slice (some ⟨b, 0, none⟩) xs.length cap ∧ M = [(b, cells (flatI xs ++ rest) 35)] ∧ xs.length ≤ cap ∧ (flatI xs).length + rest.length = cap * 2 := by
  obtain ⟨us, ⟨hu, ⟨rfl, h1, _⟩ | ⟨b, cap, rest, rfl, rfl, h2, h3⟩⟩, f⟩ := s
  · omega
  · rw [Flat_id.1 f] at h2 ⊢
    exact ⟨b, cap, rest, rfl, rfl, h3, h2⟩
theorem OS.make {h : Frag} {b n cap : Nat} {xs : List ID} {rest : List Value} (hn : n = xs.length) (hc : xs.length ≤ cap) (hl : (flatI xs).length + rest.length = cap * 2) : OS h 35 2 IDC (.slice (some ⟨b, 0, none⟩) n cap) xs [(b, cells (flatI xs ++ rest) 35)] := by
  subst hn
  exact ⟨flatI xs, ⟨flatI_length xs, .inr ⟨b, cap, rest, rfl, rfl, hl, hc⟩⟩, Flat_id.2 rfl⟩
section
variable {P : Program} {r : Option Nat} {h : Frag} {L : Hp} {fr : Fr} {o : Oper} {K : OCont} {b j k e : Nat} {xs ys : List ID} {x y : ID} {rest : List Value}
theorem Rd_id (hm : (b, cells (flatI xs ++ rest) e) ∈ L) (hx : xs[j]? = some x) : Rd h L b (j * 2) (idc x) := by
  refine ⟨_, e, (0, 0), .inr hm, fun i v hv => ?_⟩
  have h1 := flatI_get hx
  have hlt : j * 2 < (flatI xs).length := by rw [flatI_length]; have := (List.getElem?_eq_some_iff.1 hx).1; omega
  have hi : i < 2 := (List.getElem?_eq_some_iff.1 hv).1
  have h2 : ((flatI xs).drop (j * 2))[i]? = some v := by rw [h1, List.getElem?_append_left (by exact hi)]; exact hv
  rw [List.getElem?_drop] at h2
  have h3 := (List.getElem?_eq_some_iff.1 h2).1
  simp only [List.getElem?_toArray]
  rw [List.getElem?_append_left h3]; exact h2
theorem L_id0 {t : TypeId} {KK : Value → Prop} (hm : (b, cells (flatI xs ++ rest) e) ∈ L) (hx : xs[j]? = some x) (ht : tyOf P t = some (true, 2)) (kk : KK (.agg (idc x).toArray)) : LG P h L b (0 + j * 2) t KK := by
  rw [Nat.zero_add]; exact L_agg (Rd_id hm hx) ht rfl kk
theorem L_id1 {t : TypeId} {KK : Value → Prop} (hm : (b, cells (flatI xs ++ rest) e) ∈ L) (hx : xs[k + j]? = some x) (ht : tyOf P t = some (true, 2)) (kk : KK (.agg (idc x).toArray)) : LG P h L b (0 + k * 2 + j * 2) t KK := by
  rw [show 0 + k * 2 + j * 2 = (k + j) * 2 by omega]; exact L_agg (Rd_id hm hx) ht rfl kk
theorem Q_indexX {t q by_ n cap off kk : Nat} {s ix : Operand} {qk : IntKind} {i : Int} (hx : xs[j]? = some x) (hop : o.op = .indexAddr t s ix) (hs : ev fr s = some (.slice (some ⟨b, off, none⟩) n cap)) (hi : ev fr ix = some (.int qk i)) (he : elemOf? P t = some (q, kk, by_)) (hj : i = (j : Int)) (hlt : j < n) : QOP P o fr h L (ptr b (off + j * kk)) :=
  Q_index hop hs hi he hj hlt
theorem W_id {t : TypeId} {p z : Operand} {L' : Hp} (hop : o.op = .store t p z) (hp : ev fr p = some (ptr b (0 + j * 2))) (hz : ev fr z = some (.agg (idc y).toArray)) (ht : tyOf P t = some (true, 2)) (hj : j < xs.length) (hu : Upd b (cells (flatI xs ++ rest) e) (cells (flatI (xs.set j y) ++ rest) e) L L') (kk : K h L' undef) : OPw P r o fr h L K := by
  refine W_put (v := .agg (idc y).toArray) (vs := idc y) (l := flatI xs ++ rest) (bt := e) hop hp hz rfl ht rfl rfl (L' := L') ?_ ?_ kk
  · rw [Nat.zero_add, flatI_set y hj]; exact hu
  · simp [flatI_length, idc]; omega
theorem W_clear {c : Call} {z : Operand} {t by_ n cap : Nat} {L' : Hp} (hop : o.op = .call c) (hc : c.callee = .builtin .clear) (ha : c.args = #[z]) (hat : c.argTypes = #[t]) (hz : ev fr z = some (.slice (some ⟨b, 0 + k * 2, none⟩) n cap)) (he : elemOf? P t = some (e, 2, by_)) (hzv : zvOf P e = some (.agg (idc (0, 0)).toArray)) (hn : k + n = xs.length)
    (hu : Upd b (cells (flatI xs ++ rest) e) (cells (flatI (xs.take k ++ List.replicate n (0, 0)) ++ rest) e) L L') (kk : K h L' (.tuple #[])) : OPw P r o fr h L K := by
  intro a hal w hw
  obtain ⟨hun, i0, hi, hk, _⟩ := elemOf?_spec he
  have hzero : (zeroValue e).run P w = .ok (.agg (idc (0, 0)).toArray) w := run_zeroValue hzv
  have hd : ∀ c', o.op ≠ .defer c' := fun c' => by rw [hop]; simp
  have hrep : (Builtin.zeroCells (Value.agg (idc (0, 0)).toArray).cells n).toList = flatI (List.replicate n (0, 0)) := by
    have : ∀ n : Nat, flatI (List.replicate n ((0, 0) : ID)) = List.replicate (n * 2) (.int .i64 0) := by
      intro n
      induction n with
      | zero => rfl
      | succ n ih =>
        rw [List.replicate_succ]
        have h1 : flatI ((0, 0) :: List.replicate n ((0, 0) : ID)) = idc (0, 0) ++ flatI (List.replicate n (0, 0)) := rfl
        rw [h1, ih, show (n + 1) * 2 = n * 2 + 1 + 1 by omega, List.replicate_succ, List.replicate_succ]; rfl
    rw [this]
    apply List.ext_getElem
    · simp [Builtin.zeroCells, Value.cells, idc]
    · intro i h1 h2
      simp [Builtin.zeroCells, Value.cells, idc]
      have : i % 2 = 0 ∨ i % 2 = 1 := by omega
      rcases this with h | h <;> simp [h]
  have hput : putAt (flatI xs ++ rest) (k * 2 + 0) (flatI (List.replicate n (0, 0))) = flatI (xs.take k ++ List.replicate n (0, 0)) ++ rest := by
    have hl := flatI_length xs
    have hl2 := flatI_length (List.replicate n ((0, 0) : ID))
    simp only [List.length_replicate] at hl2
    rw [putAt, hl2, flatI_append, List.take_append_of_le_length (by omega), List.drop_append_of_le_length (by omega), flatI_take]
    have hnil : (flatI xs).drop (k * 2 + 0 + n * 2) = [] := List.drop_eq_nil_of_le (by omega)
    rw [hnil]
    simp
  have hones : ∀ v ∈ flatI (List.replicate n ((0, 0) : ID)), v.oneCell' = true := by
    intro v hv
    simp only [flatI, List.mem_flatMap, List.mem_replicate] at hv
    obtain ⟨x, ⟨_, rfl⟩, hv⟩ := hv
    simp [idc] at hv; subst hv; rfl
  obtain ⟨w', hr, hb', hne, hsz, ho, htp, hpo, hdn⟩ := run_storeCells (P := P) (b := b) (t := e) (flatI (List.replicate n (0, 0))) 0 (k * 2) (flatI xs ++ rest) w (hw.sees.own _ hu.mem) (by
    have hl := flatI_length xs
    have hl2 := flatI_length (List.replicate n ((0, 0) : ID))
    simp only [List.length_replicate] at hl2
    simp only [List.length_append]; omega) hones
  rw [hput] at hb'
  have hx := Ext.set hw hu hb' hne hsz ho htp hpo hdn
  have hrun : (Builtin.clear_ #[t] o.type #[.slice (some ⟨b, k * 2, none⟩) n cap]).run P w = .ok (.tuple #[]) w' := by
    unfold Builtin.clear_
    cases n with
    | zero =>
      have : w' = w := by
        have : flatI (List.replicate 0 ((0, 0) : ID)) = [] := rfl
        rw [this] at hr
        simp only [storeCells, Sem.run_pure] at hr
        cases hr; rfl
      subst this
      simp [run_underlying' hun]
    | succ n =>
      simp only [Sem.run_bind]
      simp [run_underlying' hun, hzero, hrep, hr]
  refine wpIn_of_value hd (w' := w') (v := .tuple #[]) ?_ ⟨h, L', _, rfl, kk, hx⟩
  unfold execOp; rw [hop]
  simp [resolve, hc, ha, hat, invoke, builtin, hal z _ hz, hrun]
end
end Go.Mesh
/-
  THE KIT's CONTRACT OF slices.SortFunc LAID AT THIS TRANSLATION, twice (identities, nodes): plain text.
-/
set_option linter.all false
namespace Go.Proofs
open Go.Shelf
def Tryz.sortID_ren : Go.Shelf.Ren := ⟨fun | 6 => 84 | 15 => 119 | 14 => 121 | 28 => 139 | 29 => 140 | 20 => 141 | 21 => 142 | 22 => 143 | 23 => 144 | 24 => 145 | 25 => 146 | 26 => 147 | 27 => 148 | 46 => 158 | 47 => 154 | 48 => 155 | 49 => 159 | 50 => 160 | 57 => 162 | n => n, fun | 22 => 31 | 24 => 35 | 25 => 150 | 3 => 3 | 39 => 176 | 0 => 0 | 53 => 191 | 55 => 60 | 4 => 4 | 46 => 185 | 45 => 184 | 50 => 64 | 5 => 5 | 9 => 9 | 66 => 201 | 70 => 205 | 76 => 209 | 77 => 210 | n => n, fun | n => n⟩
theorem Tryz.sortID : Go.Proofs.SlLaysF0.n6 Tryz.prog Tryz.sortID_ren := {
  mixed := by kernel_rfl
  f6 := ⟨Tryz.f84.name, by decide, Tryz.func84.trans (congrArg some (by kernel_rfl))⟩
  f14 := ⟨Tryz.f121.name, by decide, Tryz.func121.trans (congrArg some (by kernel_rfl))⟩
  f15 := Tryz.func119.trans (congrArg some (by kernel_rfl))
  f20 := ⟨Tryz.f141.name, by decide, Tryz.func141.trans (congrArg some (by kernel_rfl))⟩
  f21 := ⟨Tryz.f142.name, by decide, Tryz.func142.trans (congrArg some (by kernel_rfl))⟩
  f22 := ⟨Tryz.f143.name, by decide, Tryz.func143.trans (congrArg some (by kernel_rfl))⟩
  f23 := ⟨Tryz.f144.name, by decide, Tryz.func144.trans (congrArg some (by kernel_rfl))⟩
  f24 := ⟨Tryz.f145.name, by decide, Tryz.func145.trans (congrArg some (by kernel_rfl))⟩
  f25 := ⟨Tryz.f146.name, by decide, Tryz.func146.trans (congrArg some (by kernel_rfl))⟩
  f26 := ⟨Tryz.f147.name, by decide, Tryz.func147.trans (congrArg some (by kernel_rfl))⟩
  f27 := ⟨Tryz.f148.name, by decide, Tryz.func148.trans (congrArg some (by kernel_rfl))⟩
  f28 := Tryz.func139.trans (congrArg some (by kernel_rfl))
  f29 := Tryz.func140.trans (congrArg some (by kernel_rfl))
  f46 := ⟨Tryz.f158.name, by decide, Tryz.func158.trans (congrArg some (by kernel_rfl))⟩
  f47 := Tryz.func154.trans (congrArg some (by kernel_rfl))
  f48 := Tryz.func155.trans (congrArg some (by kernel_rfl))
  f49 := ⟨Tryz.f159.name, by decide, Tryz.func159.trans (congrArg some (by kernel_rfl))⟩
  f50 := ⟨Tryz.f160.name, by decide, Tryz.func160.trans (congrArg some (by kernel_rfl))⟩
  f57 := ⟨Tryz.f162.name, by decide, Tryz.func162.trans (congrArg some (by kernel_rfl))⟩
  t0 := Tryz.underlying0
  a0 := Tryz.isAgg0
  z0 := Tryz.sizeOf0
  v0 := Tryz.zeroValue0
  t3 := Tryz.underlying3
  a3 := Tryz.isAgg3
  z3 := Tryz.sizeOf3
  v3 := Tryz.zeroValue3
  t4 := Tryz.underlying4
  a4 := Tryz.isAgg4
  z4 := Tryz.sizeOf4
  v4 := Tryz.zeroValue4
  t5 := Tryz.underlying5
  a5 := Tryz.isAgg5
  z5 := Tryz.sizeOf5
  v5 := Tryz.zeroValue5
  t9 := Tryz.underlying9
  a9 := Tryz.isAgg9
  z9 := Tryz.sizeOf9
  v9 := Tryz.zeroValue9
  t22 := Tryz.underlying31
  a22 := Tryz.isAgg31
  z22 := Tryz.sizeOf31
  v22 := Tryz.zeroValue31
  t25 := Tryz.underlying150
  a25 := Tryz.isAgg150
  z25 := Tryz.sizeOf150
  v25 := Tryz.zeroValue150
  t39 := Tryz.underlying176
  a39 := Tryz.isAgg176
  z39 := Tryz.sizeOf176
  v39 := Tryz.zeroValue176
  t45 := Tryz.underlying184
  a45 := Tryz.isAgg184
  z45 := Tryz.sizeOf184
  v45 := Tryz.zeroValue184
  t46 := Tryz.underlying185
  a46 := Tryz.isAgg185
  z46 := Tryz.sizeOf185
  v46 := Tryz.zeroValue185
  t50 := Tryz.underlying64
  a50 := Tryz.isAgg64
  z50 := Tryz.sizeOf64
  v50 := Tryz.zeroValue64
  t53 := Tryz.underlying191
  a53 := Tryz.isAgg191
  z53 := Tryz.sizeOf191
  v53 := Tryz.zeroValue191
  t55 := Tryz.underlying60
  a55 := Tryz.isAgg60
  z55 := Tryz.sizeOf60
  v55 := Tryz.zeroValue60
  t66 := Tryz.underlying201
  a66 := Tryz.isAgg201
  z66 := Tryz.sizeOf201
  v66 := Tryz.zeroValue201
  t70 := Tryz.underlying205
  a70 := Tryz.isAgg205
  z70 := Tryz.sizeOf205
  v70 := Tryz.zeroValue205
  t76 := Tryz.underlying209
  a76 := Tryz.isAgg209
  z76 := Tryz.sizeOf209
  v76 := Tryz.zeroValue209
  t77 := Tryz.underlying210
  a77 := Tryz.isAgg210
  z77 := Tryz.sizeOf210
  v77 := Tryz.zeroValue210 }

def Tryz.sortNd_ren : Go.Shelf.Ren := ⟨fun | 6 => 80 | 15 => 119 | 14 => 118 | 28 => 139 | 29 => 140 | 20 => 131 | 21 => 132 | 22 => 133 | 23 => 134 | 24 => 135 | 25 => 136 | 26 => 137 | 27 => 138 | 46 => 153 | 47 => 154 | 48 => 155 | 49 => 156 | 50 => 157 | 57 => 161 | n => n, fun | 22 => 25 | 24 => 38 | 25 => 145 | 3 => 3 | 39 => 176 | 0 => 0 | 53 => 191 | 55 => 60 | 4 => 4 | 46 => 185 | 45 => 184 | 50 => 64 | 5 => 5 | 9 => 9 | 66 => 201 | 70 => 205 | 76 => 209 | 77 => 210 | n => n, fun | n => n⟩
theorem Tryz.sortNd : Go.Proofs.SlLaysF0.n6 Tryz.prog Tryz.sortNd_ren := {
  mixed := by kernel_rfl
  f6 := ⟨Tryz.f80.name, by decide, Tryz.func80.trans (congrArg some (by kernel_rfl))⟩
  f14 := ⟨Tryz.f118.name, by decide, Tryz.func118.trans (congrArg some (by kernel_rfl))⟩
  f15 := Tryz.func119.trans (congrArg some (by kernel_rfl))
  f20 := ⟨Tryz.f131.name, by decide, Tryz.func131.trans (congrArg some (by kernel_rfl))⟩
  f21 := ⟨Tryz.f132.name, by decide, Tryz.func132.trans (congrArg some (by kernel_rfl))⟩
  f22 := ⟨Tryz.f133.name, by decide, Tryz.func133.trans (congrArg some (by kernel_rfl))⟩
  f23 := ⟨Tryz.f134.name, by decide, Tryz.func134.trans (congrArg some (by kernel_rfl))⟩
  f24 := ⟨Tryz.f135.name, by decide, Tryz.func135.trans (congrArg some (by kernel_rfl))⟩
  f25 := ⟨Tryz.f136.name, by decide, Tryz.func136.trans (congrArg some (by kernel_rfl))⟩
  f26 := ⟨Tryz.f137.name, by decide, Tryz.func137.trans (congrArg some (by kernel_rfl))⟩
  f27 := ⟨Tryz.f138.name, by decide, Tryz.func138.trans (congrArg some (by kernel_rfl))⟩
  f28 := Tryz.func139.trans (congrArg some (by kernel_rfl))
  f29 := Tryz.func140.trans (congrArg some (by kernel_rfl))
  f46 := ⟨Tryz.f153.name, by decide, Tryz.func153.trans (congrArg some (by kernel_rfl))⟩
  f47 := Tryz.func154.trans (congrArg some (by kernel_rfl))
  f48 := Tryz.func155.trans (congrArg some (by kernel_rfl))
  f49 := ⟨Tryz.f156.name, by decide, Tryz.func156.trans (congrArg some (by kernel_rfl))⟩
  f50 := ⟨Tryz.f157.name, by decide, Tryz.func157.trans (congrArg some (by kernel_rfl))⟩
  f57 := ⟨Tryz.f161.name, by decide, Tryz.func161.trans (congrArg some (by kernel_rfl))⟩
  t0 := Tryz.underlying0
  a0 := Tryz.isAgg0
  z0 := Tryz.sizeOf0
  v0 := Tryz.zeroValue0
  t3 := Tryz.underlying3
  a3 := Tryz.isAgg3
  z3 := Tryz.sizeOf3
  v3 := Tryz.zeroValue3
  t4 := Tryz.underlying4
  a4 := Tryz.isAgg4
  z4 := Tryz.sizeOf4
  v4 := Tryz.zeroValue4
  t5 := Tryz.underlying5
  a5 := Tryz.isAgg5
  z5 := Tryz.sizeOf5
  v5 := Tryz.zeroValue5
  t9 := Tryz.underlying9
  a9 := Tryz.isAgg9
  z9 := Tryz.sizeOf9
  v9 := Tryz.zeroValue9
  t22 := Tryz.underlying25
  a22 := Tryz.isAgg25
  z22 := Tryz.sizeOf25
  v22 := Tryz.zeroValue25
  t25 := Tryz.underlying145
  a25 := Tryz.isAgg145
  z25 := Tryz.sizeOf145
  v25 := Tryz.zeroValue145
  t39 := Tryz.underlying176
  a39 := Tryz.isAgg176
  z39 := Tryz.sizeOf176
  v39 := Tryz.zeroValue176
  t45 := Tryz.underlying184
  a45 := Tryz.isAgg184
  z45 := Tryz.sizeOf184
  v45 := Tryz.zeroValue184
  t46 := Tryz.underlying185
  a46 := Tryz.isAgg185
  z46 := Tryz.sizeOf185
  v46 := Tryz.zeroValue185
  t50 := Tryz.underlying64
  a50 := Tryz.isAgg64
  z50 := Tryz.sizeOf64
  v50 := Tryz.zeroValue64
  t53 := Tryz.underlying191
  a53 := Tryz.isAgg191
  z53 := Tryz.sizeOf191
  v53 := Tryz.zeroValue191
  t55 := Tryz.underlying60
  a55 := Tryz.isAgg60
  z55 := Tryz.sizeOf60
  v55 := Tryz.zeroValue60
  t66 := Tryz.underlying201
  a66 := Tryz.isAgg201
  z66 := Tryz.sizeOf201
  v66 := Tryz.zeroValue201
  t70 := Tryz.underlying205
  a70 := Tryz.isAgg205
  z70 := Tryz.sizeOf205
  v70 := Tryz.zeroValue205
  t76 := Tryz.underlying209
  a76 := Tryz.isAgg209
  z76 := Tryz.sizeOf209
  v76 := Tryz.zeroValue209
  t77 := Tryz.underlying210
  a77 := Tryz.isAgg210
  z77 := Tryz.sizeOf210
  v77 := Tryz.zeroValue210 }

end Go.Proofs
/-
  slices.SortFunc IN MY LOGIC, out of the kit's contract (Derived/Shelf/SlSortCmp/WholeK.lean): an owned row becomes a permutation of itself, sorted.
-/
set_option linter.all false
namespace Go.Mesh
open Go.Proofs Go.Shelf
set_option linter.unusedVariables false

theorem Ext.grown {h : Frag} {L : Hp} {w : World} (s : Holds h L w) (os : Array Obj) : Ext h L w h L (Go.Sort.grow w os) := by
  have hlt : ∀ b, b < w.heap.size → (Go.Sort.grow w os).heap[b]? = w.heap[b]? := fun b hb => by simp only [Go.Sort.grow]; rw [Array.getElem?_append_left hb]
  refine ⟨le_refl h, ⟨⟨fun b o e => ?_, fun p hp => ?_⟩, s.nodup, s.apart⟩, ?_, fun b hb _ => hlt b hb, fun b o e => .inl e, fun p hp => .inr (mem_ids hp), rfl, rfl, rfl, Nat.le_refl _⟩
  · rw [hlt b (s.pers_lt e)]; exact s.sees.pers b o e
  · rw [hlt _ (s.lt hp)]; exact s.sees.own p hp
  · simp [Go.Sort.grow]
theorem Ext.isGrow {h h' : Frag} {w w' : World} (x : Ext h [] w h' [] w') : ∃ q os', w' = Go.Sort.grow (w.drewN q) os' := by
  refine ⟨w'.drawn - w.drawn, w'.heap.extract w.heap.size w'.heap.size, ?_⟩
  have hd : w.drawn + (w'.drawn - w.drawn) = w'.drawn := by have := x.drawn; omega
  have hh : w.heap ++ w'.heap.extract w.heap.size w'.heap.size = w'.heap := by
    apply Array.ext_getElem?
    intro i
    rw [Array.getElem?_append]
    split
    · rename_i hlt; rw [x.frame i hlt (by simp [ids])]
    · rename_i hge
      rw [Array.getElem?_extract]
      have hs := x.size
      split
      · rename_i h2; congr 1; omega
      · rename_i h2; rw [Array.getElem?_eq_none (by omega)]
  have h1 := x.os; have h2 := x.tape; have h3 := x.output
  cases w' with
  | mk heap tape drawn os output =>
    simp only at hd hh h1 h2 h3
    simp only [Go.Sort.grow, World.drewN, hd, hh, h1, h2, h3]

section
variable {α : Type} [Inhabited α] {P : Program} {ρ : Ren} {enc : α → List Value} {k : Nat}
theorem flatMap_len (hk : ∀ x, (enc x).length = k) : ∀ d : List α, (d.flatMap enc).length = d.length * k
  | [] => by simp
  | x :: d => by simp only [List.flatMap_cons, List.length_append, hk, flatMap_len hk d, List.length_cons]; rw [Nat.add_mul]; omega
theorem flatMap_get (hk : ∀ x, (enc x).length = k) : ∀ (d : List α) (t : Nat), t < d.length * k → (d.flatMap enc)[t]? = some ((enc (d.toArray[t / k]!))[t % k]!)
  | [], t, h => by simp at h
  | x :: d, t, h => by
    have k0 : 0 < k := by rcases Nat.eq_zero_or_pos k with h0 | h0; · subst h0; simp at h
                          · exact h0
    rw [List.flatMap_cons]
    by_cases ht : t < k
    · rw [List.getElem?_append_left (by rw [hk]; exact ht), Nat.div_eq_of_lt ht, Nat.mod_eq_of_lt ht]
      have : t < (enc x).length := by rw [hk]; exact ht
      simp [this]
    · rw [List.getElem?_append_right (by rw [hk]; omega), hk, flatMap_get hk d (t - k) (by simp only [List.length_cons, Nat.add_mul] at h; omega)]
      obtain ⟨u, rfl⟩ : ∃ u, t = u + k := ⟨t - k, by omega⟩
      rw [Nat.add_sub_cancel, Nat.add_div_right _ k0, Nat.add_mod_right]
      simp
theorem flatK_eq (hk : ∀ x, (enc x).length = k) (d : List α) : Go.Sort.flatK enc k d.toArray = (d.flatMap enc).toArray := by
  apply Array.ext
  · simp [flatMap_len hk]
  · intro t h1 h2
    simp only [Go.Sort.size_flatK, List.size_toArray] at h1
    have h3 := flatMap_get hk d t h1
    have h4 := Go.Sort.get_flatK enc k d.toArray t (by simpa using h1)
    rw [getElem!_pos _ t (by simpa using h1)] at h4
    rw [h4]
    have h5 : t < (d.flatMap enc).length := by rw [flatMap_len hk]; exact h1
    rw [List.getElem?_eq_getElem h5] at h3
    simp only [List.getElem_toArray]
    exact (Option.some.inj h3).symm

theorem ext_sw (hk : ∀ x, (enc x).length = k) {h : Frag} {w : World} {b e : Nat} {d : List α} {rest : List Value} (hw : Holds h [(b, cells (d.flatMap enc ++ rest) e)] w) (m : Nat) (dk : List α) (os : Array Obj) (hs : dk.length = d.length) :
    Ext h [(b, cells (d.flatMap enc ++ rest) e)] w h [(b, cells (dk.flatMap enc ++ rest) e)] (sortWorldK enc k w b 0 m dk.toArray os) := by
  have hb := hw.sees.own (b, cells (d.flatMap enc ++ rest) e) (by simp)
  have hblk := hw.lt (p := (b, cells (d.flatMap enc ++ rest) e)) (by simp)
  have e1 : Ext h [(b, cells (d.flatMap enc ++ rest) e)] w h [(b, cells (d.flatMap enc ++ rest) e)] (Go.Sort.ahead w m) := Ext.same hw rfl rfl rfl rfl (Nat.le_add_right _ _)
  have hput : Go.Sort.putCells id 0 (Go.Sort.flatK enc k dk.toArray) (d.flatMap enc ++ rest).toArray = (dk.flatMap enc ++ rest).toArray := by
    rw [flatK_eq hk]
    have l1 := flatMap_len hk d
    have l2 := flatMap_len hk dk
    apply Array.ext
    · simp [Go.Sort.putCells, l1, l2, hs]
    · intro i h1 h2
      simp only [Go.Sort.putCells, Array.getElem_mapIdx]
      split
      · rename_i hi
        have hi2 : i < (dk.flatMap enc).length := by simpa using hi.2
        simp only [Nat.sub_zero, id]
        rw [getElem!_pos _ i (by simpa using hi2)]
        simp only [List.getElem_toArray]
        rw [List.getElem_append_left hi2]
      · rename_i hi
        have hi2 : (dk.flatMap enc).length ≤ i := by simp only [Nat.zero_le, true_and, Nat.zero_add, List.size_toArray, Nat.not_lt] at hi; exact hi
        simp only [List.getElem_toArray]
        rw [List.getElem_append_right hi2, List.getElem_append_right (by rw [l1, ← hs, ← l2]; exact hi2)]
        congr 1
        rw [l1, l2, hs]
  have e2 : Ext h [(b, cells (d.flatMap enc ++ rest) e)] (Go.Sort.ahead w m) h [(b, cells (dk.flatMap enc ++ rest) e)] (Go.Sort.putRowK enc k (Go.Sort.ahead w m) b 0 dk.toArray) := by
    refine Ext.set e1.holds (Upd.head _) ?_ ?_ ?_ rfl rfl rfl rfl
    · have hb' : (Go.Sort.ahead w m).heap[b]? = some (cells (d.flatMap enc ++ rest) e) := hb
      simp only [Go.Sort.putRowK, Go.Sort.putRow, Go.Sort.mapBlock, Array.getElem?_modify, if_true, hb', Option.map_some, Go.Sort.onCells, hput]
    · intro j hj
      simp only [Go.Sort.putRowK, Go.Sort.putRow, Go.Sort.mapBlock, Array.getElem?_modify]
      rw [if_neg (Ne.symm hj)]
    · simp [Go.Sort.putRowK, Go.Sort.putRow, Go.Sort.mapBlock]
  exact (e1.trans e2).trans (Ext.grown e2.holds os)

theorem enters_ok {g : Nat} (hg : callOk P g = true) (args : Array Value) (w : World) : (callFunc g args).run P w = .ok (.enter g args) w := by
  obtain ⟨fn, hfn, hn, hb⟩ := callOk_spec hg
  have hbn : fn.body.isNone = false := by
    cases hx : fn.body with
    | none => rw [hx] at hb; cases hb
    | some _ => rfl
  simp only [callFunc, Sem.run_bind, run_program, Result.andThen_ok, hfn]
  simp [hn, hbn]

/-- slices.SortFunc -/
theorem sort_spec (LL : SlLaysF0.n6 P ρ) (aE : ∀ w, (isAgg (ρ.t 24)).run P w = .ok true w) (zE : ∀ w, (Go.sizeOf (ρ.t 24)).run P w = .ok k w) (hk : ∀ x, (enc x).length = k) (h1 : ∀ x, ∀ v ∈ enc x, v.oneCell' = true) {cf : α → α → Int} (hO : Go.Sort.SWO (ltOf cf)) {g : Nat} (hg : callOk P g = true) {h : Frag}
    (hc : ∀ x y, PSpec P g #[.agg (enc x).toArray, .agg (enc y).toArray] h (fun _ u => u = .int .i64 (cf x y))) {b cap e : Nat} (d : List α) (rest : List Value) (hd : d.length < 4611686018427387904) :
    FSpec P (ρ.f 6) #[.slice (some ⟨b, 0, none⟩) d.length cap, .func (.func g) #[] #[]] h [(b, cells (d.flatMap enc ++ rest) e)]
      (fun h' L' v => h' = h ∧ v = .tuple #[] ∧ ∃ d' : List α, d'.Perm d ∧ d'.Pairwise (fun x y => ¬ cf y x < 0) ∧ L' = [(b, cells (d'.flatMap enc ++ rest) e)]) := by
  intro w hw
  have hb := hw.sees.own (b, cells (d.flatMap enc ++ rest) e) (by simp)
  have hblk := hw.lt (p := (b, cells (d.flatMap enc ++ rest) e)) (by simp)
  have hH : Go.Sort.HoldsK enc k w b 0 d.toArray := by
    intro j hj
    rw [flatK_eq hk] at hj ⊢
    have hj2 : j < (d.flatMap enc).length := by simpa using hj
    refine ⟨?_, ?_⟩
    · simp only [World.cell?, hb, Nat.zero_add]
      rw [getElem!_pos _ j hj]
      simp [List.getElem?_append_left hj2, hj2]
    · simp [World.frozen?, hb]
  have hcmp : CmpLays P g #[] enc k cf b 0 d.toArray.size w := by
    intro m os dk hsz x y
    have hx := ext_sw hk hw m dk.toList os (by simpa using hsz)
    simp only [Array.toArray_toList] at hx
    have hold : Holds h [] (sortWorldK enc k w b 0 m dk os) := hx.holds.drop (List.nil_sublist _)
    rw [Array.append_empty]
    refine Calls.mono (hc x y (sortWorldK enc k w b 0 m dk os) hold) fun e' w' ⟨v, h', L', he, ⟨hL', hv⟩, y'⟩ => ?_
    subst hL'; subst hv
    exact ⟨he, y'.isGrow⟩
  have hsort := AnyQ.slices_SortFunc LL k aE zE enc hk h1 cf hO g #[] b 0 cap d.toArray w (enters_ok hg) hcmp hH hblk (by simpa using hd)
  rw [List.size_toArray] at hsort
  refine Calls.mono hsort fun e' w' ⟨he, d', n, os, hp, hs, hw'⟩ => ?_
  have hsz : d'.size = d.length := by simpa using hp.1
  have hx := ext_sw hk hw n d'.toList os (by simpa using hsz)
  simp only [Array.toArray_toList] at hx
  subst hw'
  refine ⟨_, h, _, he, ⟨rfl, rfl, d'.toList, ?_, ?_, rfl⟩, hx⟩
  · have := hp.2.2
    have e1 : d'.extract 0 d.length = d' := by rw [← hsz]; simp
    have e2 : d.toArray.extract 0 d.length = d.toArray := by simp
    rw [e1, e2] at this
    simpa using this
  · rw [List.pairwise_iff_getElem]
    intro i j hi hj hij
    have := hs i j (Nat.zero_le _) hij (by simpa [hsz] using hj)
    simp only [Array.length_toList] at hi hj
    rw [getElem!_pos _ j hj, getElem!_pos _ i hi] at this
    simpa [ltOf] using this
end
end Go.Mesh
/-
  slices.SortFunc at no element, in my logic.
-/
set_option linter.all false
namespace Go.Mesh
open Go.Proofs Go.Shelf
theorem sort_none {P : Program} {ρ : Ren} (LL : SlLaysF0.n6 P ρ) (p : Option Addr) (c : Nat) (fv : Value) (h : Frag) (M : Hp) : FSpec P (ρ.f 6) #[.slice p 0 c, fv] h M (fun h' L' v => h' = h ∧ v = .tuple #[] ∧ L' = M) := by
  intro w hw
  refine (AnyF.slices_SortFunc_none LL p c fv w).mono fun e w' ⟨he, hw'⟩ => ?_
  subst hw'
  exact ⟨_, h, M, he, ⟨rfl, rfl, rfl⟩, Ext.refl hw⟩
end Go.Mesh
/-
  CONTRACTS: slices of identities copied, sorted, made compact; sets.
-/
set_option linter.all false
namespace Go.Proofs.YtfhoecgiahpddaaGreat
open Go.Mesh Go.RowKit
set_option maxRecDepth 100000
set_option linter.unusedVariables false
set_option maxHeartbeats 4000000
attribute [local irreducible] WP OPS ANY ANYo LG LV FSpec PSpec QOP OPc OPw thenQ blockQ roundQ roundF retQ retM Rd At SLB OS cmpI orI cmpID namedB valB nodeB kindB validG valAux idxI findG zeroV viewOf vwAt idxOf recv flyB scionOf moveOf numberedOf idOf valueOf mget mput localB carriedB stubOf followF followOf flOf flightsOf flPre
theorem cloneID_s {h : Frag} {a : Value} {xs : List ID} (hx : SL h 2 IDC a xs) : FSpec Tryz.prog 83 #[a] h [] (fun h' L' v => ∃ p c, v = .slice p xs.length c ∧ OS h' 35 2 IDC (.slice p xs.length c) xs L') := by
  have hxl := hx.le
  obtain ⟨p, cap, rfl⟩ := hx.slice
  refine spec_of (vs := [.slice p xs.length cap]) Tryz.func83 Tryz.ntmps83 rfl rfl rfl ?_
  (focus (refine Wr ?_; refine Tm ?_; refine On ?_; refine WP_seq ?_; refine Wr ?_; refine Tm ?_; refine S_q rfl rfl rfl (Q_eqNil rfl rfl rfl rfl) ?_; refine On ?_; refine Wc ?_ ?_ <;> intro c0_1 <;> (first | simp [*] at c0_1; done | try simp at c0_1); (focus (refine Wr ?_; refine Tm ?_; refine On ?_; refine WP_ret ?_; refine then_r ?_)); rotate_left 1; (focus (refine WP_skip ?_; refine then_n ?_; refine Wr ?_; refine S_c rfl rfl rfl (C_buildSlice rfl (elm rfl) (zer rfl) rfl rfl rfl rfl ?_); intro b0_2; refine Tm ?_; refine S_w rfl rfl rfl (W_appS [] _ (OS.lit0 _ _ _ _ _) ‹_› rfl rfl rfl rfl rfl rfl (elm rfl) (zer rfl) rfl rfl (by (try simp only [lA]); omega) (by (try simp only [lA]); omega) ?_); rintro p0_3 q0_3 m0_3 o0_3; refine Tm ?_; refine On ?_; refine WP_ret ?_)); rotate_left 1))
  · subst c0_1
    have hn : xs = [] := hx.none_nil
    subst hn
    exact ret_q [] (.inl rfl) rfl ⟨_, _, rfl, rfl, rfl⟩ (List.Sublist.refl _) ⟨_, _, rfl, OS.nil _ _ _ _⟩
  · exact ret_q m0_3 (.inl rfl) rfl ⟨_, _, rfl, rfl, rfl⟩ (by repeat' first | exact sR _ | exact sA _ _ | exact sN _ | apply s2 | apply s1) ⟨_, _, rfl, o0_3⟩
def compactL : List ID → List ID
  | [] => []
  | [x] => [x]
  | x :: y :: r => if x = y then compactL (y :: r) else x :: compactL (y :: r)
theorem compactL_drop {xs : List ID} {k : Nat} {x y : ID} (hx : xs[k]? = some x) (hy : xs[k + 1]? = some y) : compactL (xs.drop k) = if x = y then compactL (xs.drop (k + 1)) else x :: compactL (xs.drop (k + 1)) := by
  rw [drop_get hx, drop_get hy, compactL]
theorem compact_s {h : Frag} {v : Value} {xs : List ID} {M : Hp} (hs : OS h 35 2 IDC v xs M) (hxl : xs.length ≤ 4398046511104) : FSpec Tryz.prog 91 #[v] h M (fun h' L' u => h' = h ∧ ∃ p c, u = .slice p (compactL xs).length c ∧ OS h' 35 2 IDC (.slice p (compactL xs).length c) (compactL xs) L') := by
  obtain ⟨p, c, rfl⟩ := hs.slice
  by_cases hsm : xs.length < 2
  · refine spec_of (vs := [.slice p xs.length c]) Tryz.func91 Tryz.ntmps91 rfl rfl rfl ?_
    (focus (refine Wr ?_; refine Tm ?_; refine On ?_; refine WP_seq ?_; refine Wr ?_; refine Tm ?_; refine Tlen ?_; refine Tc ?_; refine On ?_; refine Wc ?_ ?_ <;> intro c0_1 <;> (first | simp [*] at c0_1; done | try simp at c0_1); (focus (refine Wr ?_; refine Tm ?_; refine Tm ?_; refine On ?_; refine WP_ret ?_; refine then_r ?_)); rotate_left 1; (focus (exfalso; omega))))
    have hc : compactL xs = xs := by
      match xs, hsm with
      | [], _ => rfl
      | [_], _ => rfl
    rw [hc]
    exact ret_q M (.inl rfl) rfl ⟨_, _, rfl, rfl, rfl⟩ (List.Sublist.refl _) ⟨rfl, _, _, rfl, hs⟩
  obtain ⟨b, cap, rest, e, rfl, hcap, hrl⟩ := hs.parts (by omega)
  cases e
  refine spec_of (vs := [.slice (some ⟨b, 0, none⟩) xs.length c]) Tryz.func91 Tryz.ntmps91 rfl rfl rfl ?_
  (focus (refine Wr ?_; refine Tm ?_; refine On ?_; refine WP_seq ?_; refine Wr ?_; refine Tm ?_; refine Tlen ?_; refine Tc ?_; refine On ?_; refine Wc ?_ ?_ <;> intro c1_1 <;> (first | simp [*] at c1_1; done | try simp at c1_1); (focus (exfalso; omega)); (focus (refine WP_skip ?_; refine then_n ?_; refine WP_seq ?_; refine Wr ?_; refine Tm ?_; refine On ?_; refine WP_block ?_)); rotate_left 1))
  (refine WP_loopC (α := Nat) [0] (fun (q : Nat) => xs.length - q) (fun (q : Nat) => [(3, .int .i64 ((q + 1 : Nat) : Int))]) (fun hh (q : Nat) => hh = h ∧ q + 1 ≤ xs.length ∧ compactL xs = xs.take q ++ compactL (xs.drop q)) 0 ⟨_, _, rfl, rfl, rfl⟩ (by repeat' first | exact trivial | refine ⟨rfl, ?_⟩) ?_ ?_)
  · exact ⟨rfl, by omega, rfl⟩
  rintro h1 q _ ⟨rfl, hq, hcq⟩
  by_cases hlt : q + 1 < xs.length
  · obtain ⟨⟨x1, x2⟩, ex⟩ := get_of hlt
    obtain ⟨⟨y1, y2⟩, ey⟩ := get_of (xs := xs) (k := q) (by omega)
    have hcd := compactL_drop ey ex
    (focus (refine WP_seq ?_; refine Wr ?_; refine Tm ?_; refine Tm ?_; refine Tlen ?_; refine Tc ?_; refine On ?_; refine Wc ?_ ?_ <;> intro c3_1 <;> (first | simp [*] at c3_1; done | try simp at c3_1); (focus (refine WP_skip ?_; refine then_n ?_; refine WP_seq ?_; refine WP_block ?_; refine WP_seq ?_; refine R_draw (n := 10) mixed rfl ?_; refine Va 0 ?_; refine Vm 1 ?_; refine Va 1 ?_; refine Vm 3 ?_; refine Va 2 ?_; refine A_q (m' := 7) rfl rfl rfl (Q_indexX ex rfl rfl rfl (elm rfl) (by omega) (by omega)) rfl (by decide +kernel) ?_; refine Va 3 ?_; refine Vl 15 ?_; refine L_id0 m0 ‹_› (ty rfl) ?_; refine Va 4 ?_; refine Vm 31 ?_; refine Va 5 ?_; refine Vm 63 ?_; refine Va 6 ?_; refine A_q (m' := 127) rfl rfl rfl (Q_sub rfl rfl rfl (by omega)) rfl (by decide +kernel) ?_; refine Va 7 ?_; refine A_q (m' := 255) rfl rfl rfl (Q_indexX ey rfl rfl rfl (elm rfl) (by omega) (by omega)) rfl (by decide +kernel) ?_; refine Va 8 ?_; refine Vl 511 ?_; refine L_id0 m0 ‹_› (ty rfl) ?_; refine Va 9 ?_; refine A_q (m' := 1023) rfl rfl rfl (Q_eqI eqID rfl rfl rfl rfl rfl) rfl (by decide +kernel) ?_; refine A_done (by decide +kernel) ?_; refine then_n ?_; refine Wc ?_ ?_ <;> intro c3_2 <;> (first | simp [*] at c3_2; done | try simp at c3_2); (focus (refine Wr ?_; refine Tm ?_; refine Tm ?_; refine S_q rfl rfl rfl (Q_slice rfl rfl (elm rfl) ⟨_, rfl⟩ rfl (by omega) (by omega) (by omega)) ?_; refine Tm ?_; refine On ?_; refine WP_seq ?_; refine Wr ?_; refine Tm ?_; refine On ?_; refine WP_block ?_)); rotate_left 1; (focus (refine WP_skip ?_; refine block_n ?_; refine then_n ?_; refine R_region ?_; refine Tm ?_; refine Ta ?_; refine Tm ?_; refine OPS_nil ?_)); rotate_left 1)); rotate_left 2; (focus (exfalso; omega))))
    · obtain ⟨rfl, rfl⟩ := c3_2
      rw [if_pos rfl] at hcd
      rw [hcd] at hcq
      clear hs hcd
      (refine WP_loopF (α := Nat × Nat × List ID) [4, 0] (fun (s : Nat × Nat × List ID) => xs.length - s.1) (fun (s : Nat × Nat × List ID) => [(b, cells (flatI s.2.2 ++ rest) 35)]) (fun (s : Nat × Nat × List ID) => [(5, .int .i64 ((s.1 + 1 : Nat) : Int)), (3, .int .i64 ((s.2.1 + 1 : Nat) : Int))]) (fun hh (s : Nat × Nat × List ID) => hh = h1 ∧ s.2.2.length = xs.length ∧ s.2.1 + 1 ≤ q + 1 + s.1 ∧ q + 1 + s.1 < xs.length ∧ s.2.2.drop (q + 1 + s.1) = xs.drop (q + 1 + s.1) ∧ compactL xs = s.2.2.take s.2.1 ++ compactL (xs.drop (q + 1 + s.1)) ∧ s.2.2[s.2.1]? = xs[q + 1 + s.1]?) (0, q, xs) ⟨_, _, rfl, ⟨_, _, rfl, rfl, rfl⟩, rfl⟩ ?_ (by repeat' first | exact sR _ | exact sA _ _ | exact sN _ | apply s2 | apply s1) (by repeat' first | exact trivial | refine ⟨rfl, ?_⟩) ?_)
      · exact ⟨rfl, rfl, Nat.le_refl _, hlt, rfl, hcq, by simp only; rw [ey, Nat.add_zero, ex]⟩
      clear hcq ex ey
      rintro h2 ⟨j, kk, ys⟩ - ⟨rfl, hyl, hkj, hp, hdr, hcq, hlast⟩
      simp only at hyl hkj hp hdr hcq hlast
      dsimp only
      have hget : ∀ i, ys[q + 1 + j + i]? = xs[q + 1 + j + i]? := fun i => by
        have := congrArg (fun l : List ID => l[i]?) hdr
        simpa [List.getElem?_drop] using this
      by_cases hlt2 : q + 1 + (j + 1) < xs.length
      · obtain ⟨⟨x1, x2⟩, ex⟩ := get_of (xs := xs) (k := q + 1 + (j + 1)) hlt2
        obtain ⟨⟨y1, y2⟩, ey⟩ := get_of (xs := xs) (k := q + 1 + j) (by omega)
        have hcd := compactL_drop ey (by rw [Nat.add_assoc]; exact ex)
        have fx : ys[q + 1 + (j + 1)]? = some (x1, x2) := by have := hget 1; rw [Nat.add_assoc] at this; rw [this, ex]
        have fy : ys[q + 1 + j]? = some (y1, y2) := by have := hget 0; simpa [ey] using this
        obtain ⟨z, ez⟩ := get_of (xs := ys) (k := j) (by omega)
        have hdr' : ys.drop (q + 1 + (j + 1)) = xs.drop (q + 1 + (j + 1)) := by
          have := congrArg (List.drop 1) hdr
          simpa [List.drop_drop, Nat.add_assoc] using this
        rw [ey] at hlast
        clear hget ey hdr
        (focus (refine WP_seq ?_; refine Wr ?_; refine Tm ?_; refine Tm ?_; refine Tlen ?_; refine Tc ?_; refine On ?_; refine Wc ?_ ?_ <;> intro c5_1 <;> (first | simp [*] at c5_1; done | try simp at c5_1); (focus (refine WP_skip ?_; refine then_n ?_; refine WP_seq ?_; refine WP_block ?_; refine WP_seq ?_; refine R_draw (n := 10) mixed rfl ?_; refine Va 0 ?_; refine Vm 1 ?_; refine Va 1 ?_; refine Vm 3 ?_; refine Va 2 ?_; refine A_q (m' := 7) rfl rfl rfl (Q_index rfl rfl rfl (elm rfl) rfl (by first | assumption | omega)) rfl (by decide +kernel) ?_; refine Va 3 ?_; refine Vl 15 ?_; refine L_id1 m0 ‹_› (ty rfl) ?_; refine Va 4 ?_; refine Vm 31 ?_; refine Va 5 ?_; refine Vm 63 ?_; refine Va 6 ?_; refine A_q (m' := 127) rfl rfl rfl (Q_sub rfl rfl rfl (by omega)) rfl (by decide +kernel) ?_; refine Va 7 ?_; refine A_q (m' := 255) rfl rfl rfl (Q_indexX ez rfl rfl rfl (elm rfl) (by omega) (by omega)) rfl (by decide +kernel) ?_; refine Va 8 ?_; refine Vl 511 ?_; refine L_id1 m0 ‹_› (ty rfl) ?_; refine Va 9 ?_; refine A_q (m' := 1023) rfl rfl rfl (Q_neI eqID rfl rfl rfl rfl rfl) rfl (by decide +kernel) ?_; refine A_done (by decide +kernel) ?_; refine then_n ?_; refine Wc ?_ ?_ <;> intro c5_2 <;> (first | simp [*] at c5_2; done | try simp at c5_2); (focus (refine Wr ?_; refine Tm ?_; refine Tm ?_; refine Tm ?_; refine Tm ?_; refine S_q rfl rfl rfl (Q_index rfl rfl rfl (elm rfl) rfl (by first | assumption | omega)) ?_; refine Tl ?_; refine L_id1 m0 ‹_› (ty rfl) ?_; refine S_q rfl rfl rfl (Q_index rfl rfl rfl (elm rfl) rfl (by first | assumption | omega)) ?_; refine S_w0 rfl rfl (W_id rfl rfl rfl (ty rfl) (by omega) u0 ?_); refine On ?_; refine R_region ?_; refine Tm ?_; refine Ta ?_; refine Tm ?_; refine OPS_nil ?_; refine block_n ?_; refine then_n ?_; refine R_region ?_; refine Tm ?_; refine Ta ?_; refine Tm ?_; refine OPS_nil ?_)); rotate_left 1; (focus (refine WP_skip ?_; refine block_n ?_; refine then_n ?_; refine R_region ?_; refine Tm ?_; refine Ta ?_; refine Tm ?_; refine OPS_nil ?_)); rotate_left 1)); rotate_left 2; (focus (exfalso; omega))))
        · refine roundF_n (j + 1, kk + 1, ys.set (kk + 1) (x1, x2)) (by simp only; omega) ⟨rfl, by simp [hyl], by simp only; omega, by simp only; omega, ?_, ?_, ?_⟩ (by repeat' first | exact sR _ | exact sA _ _ | exact sN _ | apply s2 | apply s1) (by repeat' first | exact trivial | refine ⟨rfl, ?_⟩)
          · simp only; rw [List.drop_set_of_lt (by omega)]; exact hdr'
          · simp only; rw [hcq, hcd, if_neg (by intro e; cases e; simp at c5_2), List.take_set_of_le (Nat.le_refl _), List.take_add_one, hlast]; simp [Nat.add_assoc]
          · simp only; rw [ex, List.getElem?_set_self (by omega)]
        · obtain ⟨rfl, rfl⟩ := c5_2
          refine roundF_n (j + 1, kk, ys) (by simp only; omega) ⟨rfl, hyl, by simp only; omega, by simp only; omega, hdr', ?_, ?_⟩ (by repeat' first | exact sR _ | exact sA _ _ | exact sN _ | apply s2 | apply s1) (by repeat' first | exact trivial | refine ⟨rfl, ?_⟩)
          · simp only; rw [hcq, hcd, if_pos rfl, Nat.add_assoc]
          · simp only; rw [hlast, ex]
      · obtain ⟨y, ey⟩ := get_of (xs := xs) (k := q + 1 + j) (by omega)
        have hce : compactL xs = ys.take (kk + 1) := by
          rw [hcq, drop_get ey, List.drop_eq_nil_of_le (by omega), compactL, List.take_add_one, hlast, ey]; rfl
        (focus (refine WP_seq ?_; refine Wr ?_; refine Tm ?_; refine Tm ?_; refine Tlen ?_; refine Tc ?_; refine On ?_; refine Wc ?_ ?_ <;> intro c6_1 <;> (first | simp [*] at c6_1; done | try simp at c6_1); (focus (exfalso; omega)); (focus (refine WP_exit ?_; refine then_e ?_; refine roundF_e ?_; refine block_e ?_; refine then_n ?_; refine Wr ?_; refine Tm ?_; refine Tm ?_; refine S_q rfl rfl rfl (Q_slice rfl rfl (elm rfl) ⟨_, rfl⟩ rfl (by omega) (by omega) (by omega)) ?_; refine S_w0 rfl rfl (W_clear rfl rfl rfl rfl rfl (elm rfl) rfl (by (try simp only [List.length_set]); omega) u0 ?_); refine On ?_; refine Wr ?_; refine Tm ?_; refine Tm ?_; refine S_q rfl rfl rfl (Q_slice rfl rfl (elm rfl) rfl ⟨_, rfl⟩ (by omega) (by omega) (by omega)) ?_; refine Tm ?_; refine On ?_; refine WP_ret ?_; refine block_r ?_; refine then_r ?_; refine roundF_r ?_; refine block_r ?_; refine then_r ?_)); rotate_left 1))
        have hlk : (ys.take (kk + 1)).length = kk + 1 := by rw [List.length_take]; omega
        have hfl := flatI_length ys
        have hfx := flatI_length xs
        rw [hce]
        refine ret_q _ (.inl rfl) rfl ⟨_, _, rfl, rfl, rfl⟩ (List.Sublist.refl _) ⟨rfl, _, _, by simp only [resOf]; rw [hlk]; rfl, ?_⟩
        rw [flatI_append, List.append_assoc, hlk]
        refine OS.make hlk.symm (by omega) ?_
        simp only [flatI_length, List.length_append, List.length_replicate, hlk] at *; omega
    · refine roundF_n (q + 1) (by omega) ⟨rfl, by omega, ?_⟩ (by repeat' first | exact sR _ | exact sA _ _ | exact sN _ | apply s2 | apply s1) (by repeat' first | exact trivial | refine ⟨rfl, ?_⟩)
      rw [hcq, hcd, if_neg (by intro e; cases e; simp at c3_2), List.take_add_one, ey]; simp
  · have hge : xs.length = q + 1 := by omega
    obtain ⟨y, ey⟩ := get_of (xs := xs) (k := q) (by omega)
    have hce : compactL xs = xs := by
      rw [hcq, drop_get ey, List.drop_eq_nil_of_le (by omega), compactL]
      have := List.take_append_drop q xs
      rw [drop_get ey, List.drop_eq_nil_of_le (by omega)] at this
      exact this
    (focus (refine WP_seq ?_; refine Wr ?_; refine Tm ?_; refine Tm ?_; refine Tlen ?_; refine Tc ?_; refine On ?_; refine Wc ?_ ?_ <;> intro c7_1 <;> (first | simp [*] at c7_1; done | try simp at c7_1); refine WP_exit ?_; refine then_e ?_; refine roundF_e ?_; refine block_e ?_; refine then_n ?_; refine Wr ?_; refine Tm ?_; refine Tm ?_; refine On ?_; refine WP_ret ?_))
    rw [hce]
    exact ret_q _ (.inl rfl) rfl ⟨_, _, rfl, rfl, rfl⟩ (List.Sublist.refl _) ⟨rfl, _, _, rfl, hs⟩
theorem filter_take {xs : List ID} {p : ID → Bool} {k : Nat} {x : ID} (hx : xs[k]? = some x) : (xs.take (k + 1)).filter p = (xs.take k).filter p ++ (if p x then [x] else []) := by
  rw [List.take_add_one, hx, List.filter_append]
  cases hp : p x <;> simp [hp]
theorem findIdx_before {xs : List ID} {p : ID → Bool} {i : Nat} (h : xs.findIdx? p = some i) : (xs.take (i + 1)).filter (fun x => !p x) = xs.take i ∧ i < xs.length := by
  obtain ⟨x, hx, hf⟩ := findIdx_find h
  have hpx := List.find?_some hf
  have hlt := lt_of_get hx
  refine ⟨?_, hlt⟩
  rw [filter_take hx, hpx]
  simp only [Bool.not_true, Bool.false_eq_true, if_false, List.append_nil]
  rw [List.filter_eq_self]
  intro y hy
  obtain ⟨j, hj, rfl⟩ := List.getElem_of_mem hy
  simp only [List.length_take] at hj
  have := (List.findIdx?_eq_some_iff_getElem.1 h).2.2 j (by omega)
  simpa using this
theorem deleteFunc_s {h : Frag} {v : Value} {xs : List ID} {M : Hp} {g : Nat} {cap : List Value} {p : ID → Bool} (hs : OS h 35 2 IDC v xs M) (hxl : xs.length ≤ 4398046511104) (hcal : callOk Tryz.prog g = true)
    (hfn0 : ∀ h', le h h' → ∀ x, PSpec Tryz.prog g ([Value.agg (idc x).toArray] ++ cap).toArray h' (fun _ u => u = .bool (p x))) :
    FSpec Tryz.prog 88 #[v, .func (.func g) #[] cap.toArray] h M (fun h' L' u => h' = h ∧ ∃ q c, u = .slice q (xs.filter fun x => !p x).length c ∧ OS h' 35 2 IDC (.slice q (xs.filter fun x => !p x).length c) (xs.filter fun x => !p x) L') := by
  obtain ⟨pp, c, rfl⟩ := hs.slice
  have hfn := hfn0 h (le_refl _)
  refine spec_of (vs := [.slice pp xs.length c, .func (.func g) #[] cap.toArray]) Tryz.func88 Tryz.ntmps88 rfl rfl rfl ?_
  rw [show M = M ++ [] from (List.append_nil _).symm]
  (focus (refine Wr ?_; refine Tm ?_; refine On ?_; refine Wr ?_; refine Tm ?_; refine Tm ?_))
  refine S_w rfl rfl rfl (W_callBv (M := M) [] _ (fun h' hl' hm => idxID_s (C := IDC) (p := p) (hs.sl hl' IDC_mono hm hxl) hcal (fun x us _ _ hx => by cases hx; exact hfn0 h' hl' x)) rfl rfl ⟨_, _, rfl, ⟨_, _, rfl, rfl, rfl⟩, rfl⟩ (cal rfl) rfl ?_)
  cases hi : xs.findIdx? p with
  | none =>
    simp only [idxI]
    have hc : (xs.filter fun x => !p x) = xs := by
      simp only [List.findIdx?_eq_none_iff] at hi
      rw [List.filter_eq_self]; intro x hx; simp [hi x hx]
    (focus (refine Tm ?_; refine On ?_; refine WP_seq ?_; refine Wr ?_; refine Tm ?_; refine Tc ?_; refine On ?_; refine cond_t rfl ?_; refine Wr ?_; refine Tm ?_; refine Tm ?_; refine On ?_; refine WP_ret ?_; refine then_r ?_))
    rw [hc]
    exact ret_q M (.inl rfl) rfl ⟨_, _, rfl, rfl, rfl⟩ (by repeat' first | exact sR _ | exact sA _ _ | exact sN _ | apply s2 | apply s1) ⟨rfl, _, _, rfl, hs⟩
  | some i0 =>
    simp only [idxI]
    obtain ⟨hbf, hil⟩ := findIdx_before hi
    obtain ⟨b, cap', rest, e, rfl, hcap, hrl⟩ := hs.parts (by omega)
    cases e
    (focus (refine Tm ?_; refine On ?_; refine WP_seq ?_; refine Wr ?_; refine Tm ?_; refine Tc ?_; refine On ?_; refine cond_f rfl ?_; refine WP_skip ?_; refine then_n ?_; refine WP_seq ?_; refine Wr ?_; refine Tm ?_; refine Ta ?_; refine Tm ?_; refine On ?_; refine WP_block ?_))
    (refine WP_loopF (α := Nat × Nat × List ID) [0, 1] (fun (s : Nat × Nat × List ID) => xs.length - s.1) (fun (s : Nat × Nat × List ID) => [(b, cells (flatI s.2.2 ++ rest) 35)]) (fun (s : Nat × Nat × List ID) => [(6, .int .i64 (s.1 : Int)), (5, .int .i64 (s.2.1 : Int))]) (fun hh (s : Nat × Nat × List ID) => hh = h ∧ s.2.2.length = xs.length ∧ s.2.1 < s.1 ∧ s.1 ≤ xs.length ∧ s.2.2.drop s.1 = xs.drop s.1 ∧ s.2.2.take s.2.1 = (xs.take s.1).filter (fun x => !p x)) (i0 + 1, i0, xs) ⟨_, _, rfl, ⟨_, _, rfl, rfl, rfl⟩, rfl⟩ ?_ (by repeat' first | exact sR _ | exact sA _ _ | exact sN _ | apply s2 | apply s1) (by repeat' first | exact trivial | refine ⟨rfl, ?_⟩) ?_)
    · exact ⟨rfl, rfl, by simp only; omega, by simp only; omega, rfl, hbf.symm⟩
    clear hs
    rintro h2 ⟨j, i, ys⟩ - ⟨rfl, hyl, hij, hjl, hdr, htk⟩
    simp only at hyl hij hjl hdr htk
    dsimp only
    by_cases hlt : j < xs.length
    · obtain ⟨⟨x1, x2⟩, ex⟩ := get_of hlt
      have fx : ys[j]? = some (x1, x2) := by
        have := congrArg (fun l : List ID => l[0]?) hdr
        simpa [List.getElem?_drop, ex] using this
      have hft := filter_take (p := fun x => !p x) ex
      have hdr' : ys.drop (j + 1) = xs.drop (j + 1) := by
        have := congrArg (List.drop 1) hdr
        simpa [List.drop_drop] using this
      (focus (refine WP_seq ?_; refine Wr ?_; refine Tm ?_; refine Tm ?_; refine Tlen ?_; refine Tc ?_; refine On ?_; refine Wc ?_ ?_ <;> intro c4_1 <;> (first | simp [*] at c4_1; done | try simp at c4_1); refine WP_skip ?_; refine then_n ?_; refine WP_seq ?_; refine WP_block ?_; refine Wr ?_; refine Tm ?_; refine Tm ?_; refine S_q rfl rfl rfl (Q_indexX ex rfl rfl rfl (elm rfl) (by omega) (by omega)) ?_; refine Tl ?_; refine L_id0 m0 ‹_› (ty rfl) ?_; refine Tal ?_; intro b4_2; refine Tw u0 ?_; refine On ?_; refine Wr ?_; refine Tm ?_; refine Tl ?_; refine Lg m0 ?_; refine S_c rfl rfl rfl (C_callCv (hfn _) rfl rfl rfl ⟨_, _, rfl, rfl, rfl⟩ hcal ?_); refine S_q rfl rfl rfl (Q_not rfl rfl) ?_; refine On ?_; refine Wc ?_ ?_ <;> intro c4_3 <;> (first | simp [*] at c4_3; done | try simp at c4_3); (focus (refine Wr ?_; refine Tm ?_; refine Tm ?_; refine Tl ?_; refine Lg m0 ?_; refine S_q rfl rfl rfl (Q_index rfl rfl rfl (elm rfl) rfl (by first | assumption | omega)) ?_; refine S_w0 rfl rfl (W_id rfl rfl rfl (ty rfl) (by omega) u1 ?_); refine On ?_; refine R_region ?_; refine Tm ?_; refine Ta ?_; refine Tm ?_; refine OPS_nil ?_; refine block_n ?_; refine then_n ?_; refine R_region ?_; refine Tm ?_; refine Ta ?_; refine Tm ?_; refine OPS_nil ?_)); rotate_left 1; (focus (refine WP_skip ?_; refine block_n ?_; refine then_n ?_; refine R_region ?_; refine Tm ?_; refine Ta ?_; refine Tm ?_; refine OPS_nil ?_)); rotate_left 1))
      · refine roundF_n (j + 1, i + 1, ys.set i (x1, x2)) (by simp only; omega) ⟨rfl, by simp [hyl], by simp only; omega, by simp only; omega, ?_, ?_⟩ (by repeat' first | exact sR _ | exact sA _ _ | exact sN _ | apply s2 | apply s1) (by repeat' first | exact trivial | refine ⟨rfl, ?_⟩)
        · simp only; rw [List.drop_set_of_lt (by omega)]; exact hdr'
        · simp only; rw [hft, ← htk, List.take_add_one, List.take_set_of_le (Nat.le_refl _), List.getElem?_set_self (by omega)]; simp [c4_3]
      · refine roundF_n (j + 1, i, ys) (by simp only; omega) ⟨rfl, hyl, by simp only; omega, by simp only; omega, hdr', ?_⟩ (by repeat' first | exact sR _ | exact sA _ _ | exact sN _ | apply s2 | apply s1) (by repeat' first | exact trivial | refine ⟨rfl, ?_⟩)
        simp only; rw [hft, ← htk]; simp [c4_3]
    · have hce : (xs.filter fun x => !p x) = ys.take i := by rw [htk, List.take_of_length_le (by omega)]
      (focus (refine WP_seq ?_; refine Wr ?_; refine Tm ?_; refine Tm ?_; refine Tlen ?_; refine Tc ?_; refine On ?_; refine Wc ?_ ?_ <;> intro c5_1 <;> (first | simp [*] at c5_1; done | try simp at c5_1); refine WP_exit ?_; refine then_e ?_; refine roundF_e ?_; refine block_e ?_; refine then_n ?_; refine Wr ?_; refine Tm ?_; refine Tm ?_; refine S_q rfl rfl rfl (Q_slice rfl rfl (elm rfl) ⟨_, rfl⟩ rfl (by omega) (by omega) (by omega)) ?_; refine S_w0 rfl rfl (W_clear rfl rfl rfl rfl rfl (elm rfl) rfl (by (try simp only [List.length_set]); omega) u0 ?_); refine On ?_; refine Wr ?_; refine Tm ?_; refine Tm ?_; refine S_q rfl rfl rfl (Q_slice rfl rfl (elm rfl) rfl ⟨_, rfl⟩ (by omega) (by omega) (by omega)) ?_; refine Tm ?_; refine On ?_; refine WP_ret ?_))
      have hlk : (ys.take i).length = i := by rw [List.length_take]; omega
      have hfl := flatI_length ys
      have hfx := flatI_length xs
      rw [hce]
      refine ret_q _ (.inl rfl) rfl ⟨_, _, rfl, rfl, rfl⟩ (List.Sublist.refl _) ⟨rfl, _, _, by simp only [resOf]; rw [hlk]; rfl, ?_⟩
      rw [flatI_append, List.append_assoc, hlk]
      refine OS.make hlk.symm (by omega) ?_
      simp only [flatI_length, List.length_append, List.length_replicate, hlk] at *; omega
end Go.Proofs.YtfhoecgiahpddaaGreat
/-
  SETS OF IDENTITIES: the order, lists that increase strictly, identity.Set and Minus.
-/
set_option linter.all false
namespace Go.Proofs.YtfhoecgiahpddaaGreat
open Go.Mesh Go.RowKit
set_option maxRecDepth 100000
set_option linter.unusedVariables false
set_option maxHeartbeats 4000000
attribute [local irreducible] WP OPS ANY ANYo LG LV FSpec PSpec QOP OPc OPw thenQ blockQ roundQ roundF retQ retM Rd At SLB OS cmpI orI cmpID namedB valB nodeB kindB validG valAux idxI findG zeroV viewOf vwAt idxOf recv flyB scionOf moveOf numberedOf idOf valueOf mget mput localB carriedB stubOf followF followOf flOf flightsOf flPre
theorem cmp_lt {a b : ID} : cmpID a b < 0 ↔ (a.1 < b.1 ∨ (a.1 = b.1 ∧ a.2 < b.2)) := by
  simp only [cmpID, orI, cmpI]
  split <;> split <;> (try split) <;> (try split) <;> simp_all <;> omega
theorem cmp_eq {a b : ID} : (¬ cmpID a b < 0 ∧ ¬ cmpID b a < 0) ↔ a = b := by
  rw [cmp_lt, cmp_lt, Prod.ext_iff]; omega
theorem cmp_trans {a b c : ID} (h1 : cmpID a b < 0) (h2 : cmpID b c < 0) : cmpID a c < 0 := by
  rw [cmp_lt] at *; omega
theorem cmp_asymm {a b : ID} (h1 : cmpID a b < 0) : ¬ cmpID b a < 0 := by
  rw [cmp_lt] at *; omega
theorem cmp_irrefl (a : ID) : ¬ cmpID a a < 0 := by rw [cmp_lt]; omega
/-- strictly increasing -/
def SI (l : List ID) : Prop := l.Pairwise fun a b => cmpID a b < 0
theorem SI_unique : ∀ {l r : List ID}, SI l → SI r → (∀ x, x ∈ l ↔ x ∈ r) → l = r
  | [], [], _, _, _ => rfl
  | [], y :: r, _, _, h => by have := (h y).2 (by simp); simp at this
  | x :: l, [], _, _, h => by have := (h x).1 (by simp); simp at this
  | x :: l, y :: r, hl, hr, h => by
    have hl' := List.pairwise_cons.1 hl
    have hr' := List.pairwise_cons.1 hr
    have hxy : x = y := by
      rcases List.mem_cons.1 ((h x).1 (by simp)) with e | e
      · exact e
      · rcases List.mem_cons.1 ((h y).2 (by simp)) with e2 | e2
        · exact e2.symm
        · exact absurd (hr'.1 x e) (cmp_asymm (hl'.1 y e2))
    subst hxy
    congr 1
    refine SI_unique hl'.2 hr'.2 fun z => ⟨fun hz => ?_, fun hz => ?_⟩
    · rcases List.mem_cons.1 ((h z).1 (by simp [hz])) with e | e
      · subst e; exact absurd (hl'.1 z hz) (cmp_irrefl z)
      · exact e
    · rcases List.mem_cons.1 ((h z).2 (by simp [hz])) with e | e
      · subst e; exact absurd (hr'.1 z hz) (cmp_irrefl z)
      · exact e
def putI : List ID → ID → List ID
  | [], x => [x]
  | y :: l, x => if cmpID y x < 0 then y :: putI l x else if y = x then y :: l else x :: y :: l
theorem mem_putI {x z : ID} : ∀ {l : List ID}, z ∈ putI l x ↔ z = x ∨ z ∈ l
  | [] => by simp [putI]
  | y :: l => by
    simp only [putI]
    split
    · simp only [List.mem_cons, mem_putI (l := l)]
      constructor
      · rintro (h | h | h)
        · exact .inr (.inl h)
        · exact .inl h
        · exact .inr (.inr h)
      · rintro (h | h | h)
        · exact .inr (.inl h)
        · exact .inl h
        · exact .inr (.inr h)
    · split
      · rename_i h; subst h; simp
      · simp
theorem SI_putI {x : ID} : ∀ {l : List ID}, SI l → SI (putI l x)
  | [], _ => by simp [putI, SI]
  | y :: l, h => by
    have h' := List.pairwise_cons.1 h
    simp only [putI]
    split
    · rename_i hlt
      refine List.pairwise_cons.2 ⟨fun z hz => ?_, SI_putI h'.2⟩
      rcases mem_putI.1 hz with e | e
      · subst e; exact hlt
      · exact h'.1 z e
    · rename_i hlt
      split
      · exact h
      · rename_i hne
        have hx : cmpID x y < 0 := Decidable.byContradiction fun hc => hne (cmp_eq.1 ⟨hlt, hc⟩)
        refine List.pairwise_cons.2 ⟨fun z hz => ?_, h⟩
        rcases List.mem_cons.1 hz with e | e
        · subst e; exact hx
        · exact cmp_trans hx (h'.1 z e)
def setL (xs : List ID) : List ID := xs.foldl putI []
theorem foldl_putI (xs : List ID) : ∀ l : List ID, SI l → SI (xs.foldl putI l) ∧ ∀ z, z ∈ xs.foldl putI l ↔ z ∈ l ∨ z ∈ xs := by
  induction xs with
  | nil => intro l h; exact ⟨h, by simp⟩
  | cons x xs ih =>
    intro l h
    obtain ⟨h1, h2⟩ := ih (putI l x) (SI_putI h)
    refine ⟨h1, fun z => ?_⟩
    rw [List.foldl_cons, h2, mem_putI]
    simp only [List.mem_cons]
    constructor
    · rintro ((h | h) | h)
      · exact .inr (.inl h)
      · exact .inl h
      · exact .inr (.inr h)
    · rintro (h | h | h)
      · exact .inl (.inr h)
      · exact .inl (.inl h)
      · exact .inr h
theorem putI_length (x : ID) : ∀ l : List ID, (putI l x).length ≤ l.length + 1
  | [] => by simp [putI]
  | y :: l => by
    have := putI_length x l
    simp only [putI]
    repeat' split
    all_goals simp only [List.length_cons]
    all_goals omega
theorem foldl_putI_length (xs : List ID) : ∀ l : List ID, (xs.foldl putI l).length ≤ l.length + xs.length := by
  induction xs with
  | nil => intro l; simp
  | cons x xs ih => intro l; have h1 := ih (putI l x); have h2 := putI_length x l; simp only [List.foldl_cons, List.length_cons]; omega
theorem setL_length (xs : List ID) : (setL xs).length ≤ xs.length := by have := foldl_putI_length xs []; rw [setL]; simpa using this
theorem SI_setL (xs : List ID) : SI (setL xs) := (foldl_putI xs [] List.Pairwise.nil).1
theorem mem_setL {xs : List ID} {z : ID} : z ∈ setL xs ↔ z ∈ xs := by have := (foldl_putI xs [] List.Pairwise.nil).2 z; rw [setL]; simpa using this
theorem mem_compactL {z : ID} : ∀ {l : List ID}, z ∈ compactL l ↔ z ∈ l
  | [] => by simp [compactL]
  | [x] => by simp [compactL]
  | x :: y :: r => by
    rw [compactL]
    split
    · rename_i h; subst h; rw [mem_compactL]; simp
    · rw [List.mem_cons, mem_compactL]; simp
theorem SI_compactL : ∀ {l : List ID}, l.Pairwise (fun x y => ¬ cmpID y x < 0) → SI (compactL l)
  | [], _ => by simp [compactL, SI]
  | [x], _ => by simp [compactL, SI]
  | x :: y :: r, h => by
    have h' := List.pairwise_cons.1 h
    rw [compactL]
    split
    · exact SI_compactL h'.2
    · rename_i hne
      have hxy : cmpID x y < 0 := Decidable.byContradiction fun hc => hne (cmp_eq.1 ⟨hc, h'.1 y (by simp)⟩)
      have h2 := List.pairwise_cons.1 h'.2
      refine List.pairwise_cons.2 ⟨fun z hz => ?_, SI_compactL h'.2⟩
      rw [mem_compactL] at hz
      rcases List.mem_cons.1 hz with e | e
      · subst e; exact hxy
      · by_cases hyz : y = z
        · subst hyz; exact hxy
        · have : cmpID y z < 0 := Decidable.byContradiction fun hc => hyz (cmp_eq.1 ⟨hc, h2.1 z e⟩)
          exact cmp_trans hxy this
theorem compact_set {xs ys : List ID} (hp : ys.Perm xs) (hs : ys.Pairwise fun x y => ¬ cmpID y x < 0) : compactL ys = setL xs :=
  SI_unique (SI_compactL hs) (SI_setL xs) fun z => by rw [mem_compactL, mem_setL, hp.mem_iff]
def minusL (a b : List ID) : List ID := (setL a).filter fun x => !decide (x ∈ b)
theorem SI_filter {l : List ID} {p : ID → Bool} (h : SI l) : SI (l.filter p) := List.Pairwise.sublist (List.filter_sublist) h
theorem SWO_cmp : Go.Sort.SWO (Go.Proofs.ltOf cmpID) where
  irrefl x := by simpa [Go.Proofs.ltOf] using cmp_irrefl x
  trans x y z h1 h2 := by simp only [Go.Proofs.ltOf, decide_eq_true_eq] at *; exact cmp_trans h1 h2
  ntrans x y z h1 h2 := by simp only [Go.Proofs.ltOf, decide_eq_false_iff_not, cmp_lt] at *; omega
attribute [local irreducible] setL minusL compactL putI
end Go.Proofs.YtfhoecgiahpddaaGreat
/-
  CONTRACTS: identity.Set, Minus.
-/
set_option linter.all false
namespace Go.Proofs.YtfhoecgiahpddaaGreat
open Go.Mesh Go.RowKit
set_option maxRecDepth 100000
set_option linter.unusedVariables false
set_option maxHeartbeats 4000000
attribute [local irreducible] WP OPS ANY ANYo LG LV FSpec PSpec QOP OPc OPw thenQ blockQ roundQ roundF retQ retM Rd At SLB OS cmpI orI cmpID namedB valB nodeB kindB validG valAux idxI findG zeroV viewOf vwAt idxOf recv flyB scionOf moveOf numberedOf idOf valueOf mget mput localB carriedB stubOf followF followOf flOf flightsOf flPre setL minusL compactL putI
theorem sortID_s {h : Frag} {p : Option Addr} {c g : Nat} {xs : List ID} {M : Hp} (hs : OS h 35 2 IDC (.slice p xs.length c) xs M) (hxl : xs.length ≤ 4398046511104) (hg : callOk Tryz.prog g = true)
    (hc : ∀ x y, PSpec Tryz.prog g #[.agg (idc x).toArray, .agg (idc y).toArray] h (fun _ u => u = .int .i64 (cmpID x y))) : FSpec Tryz.prog 84 #[.slice p xs.length c, .func (.func g) #[] #[]] h M
    (fun h' L' v => h' = h ∧ v = .tuple #[] ∧ ∃ ys : List ID, ys.Perm xs ∧ ys.length = xs.length ∧ ys.Pairwise (fun x y => ¬ cmpID y x < 0) ∧ OS h 35 2 IDC (.slice p xs.length c) ys L') := by
  by_cases h0 : 0 < xs.length
  · obtain ⟨b, cap, rest, e, rfl, hcap, hrl⟩ := hs.parts h0
    cases e
    have h1 := sort_spec (P := Tryz.prog) (ρ := Tryz.sortID_ren) (k := 2) (enc := idc) (cf := cmpID) (e := 35) (b := b) (cap := c) Tryz.sortID Tryz.isAgg35 Tryz.sizeOf35 (fun _ => rfl) (fun x v hv => by simp [idc] at hv; rcases hv with rfl | rfl <;> rfl) SWO_cmp hg hc xs rest (by omega)
    refine FSpec.mono h1 fun h' L' v _ ⟨e1, e2, d', hp, hpw, e3⟩ => ⟨e1, e2, d', hp, hp.length_eq, hpw, ?_⟩
    subst e3
    have hl := hp.length_eq
    have hfl : (flatI d').length = (flatI xs).length := by rw [flatI_length, flatI_length, hl]
    exact OS.make hl.symm (by omega) (by omega)
  · have hx : xs = [] := List.eq_nil_of_length_eq_zero (by omega)
    subst hx
    refine FSpec.mono (sort_none Tryz.sortID p c (.func (.func g) #[] #[]) h M) fun h' L' v _ ⟨e1, e2, e3⟩ => ⟨e1, e2, [], List.Perm.refl _, rfl, List.Pairwise.nil, ?_⟩
    subst e3; exact hs
theorem set_s {h : Frag} {a : Value} {xs : List ID} (hx : SL h 2 IDC a xs) : FSpec Tryz.prog 42 #[a] h [] (fun h' L' v => ∃ p c, v = .slice p (setL xs).length c ∧ OS h' 35 2 IDC (.slice p (setL xs).length c) (setL xs) L') := by
  have hxl := hx.le
  obtain ⟨p, cap, rfl⟩ := hx.slice
  refine spec_of (vs := [.slice p xs.length cap]) Tryz.func42 Tryz.ntmps42 rfl rfl rfl ?_
  (focus (refine Wr ?_; refine Tm ?_; refine On ?_; refine Wr ?_; refine Tm ?_; refine S_w rfl rfl rfl (W_callF [] _ (cloneID_s ‹_›) rfl rfl ⟨_, _, rfl, rfl, rfl⟩ (cal rfl) rfl ?_); rintro h0_1 m0_1 _ l0_1 ⟨p0_1, q0_1, rfl, o0_1⟩; replace hx := hx.up l0_1; refine Tm ?_; refine On ?_; refine Wr ?_; refine Tm ?_; refine S_w rfl rfl rfl (W_callF [] _ (sortID_s ‹_› (by omega) (cal rfl) (fun _ _ => compareID_s _ _ _)) rfl rfl ⟨_, _, rfl, ⟨_, _, rfl, rfl, rfl⟩, rfl⟩ (cal rfl) rfl ?_); rintro h0_2 m0_2 _ l0_2 ⟨e0_2, rfl, ys0_2, hp0_2, hn0_2, hs0_2, o0_2⟩; replace o0_1 := o0_1.up l0_2; replace hx := hx.up l0_2; replace o0_2 := o0_2.up l0_2; refine On ?_; refine Wr ?_; refine Tm ?_; refine S_w rfl rfl rfl (W_callF [] _ (compact_s ‹_› (by omega)) rfl rfl ⟨_, _, rfl, rfl, rfl⟩ (cal rfl) rfl ?_); rintro h0_3 m0_3 _ l0_3 ⟨e0_3, p0_3, q0_3, rfl, o0_3⟩; replace o0_1 := o0_1.up l0_3; replace hx := hx.up l0_3; replace o0_2 := o0_2.up l0_3; refine Tm ?_; refine On ?_; refine WP_ret ?_))
  rw [compact_set hp0_2 hs0_2] at o0_3
  rw [compact_set hp0_2 hs0_2]
  exact ret_q m0_3 (.inl rfl) rfl ⟨_, _, rfl, rfl, rfl⟩ (by repeat' first | exact sR _ | exact sA _ _ | exact sN _ | apply s2 | apply s1) ⟨_, _, rfl, o0_3⟩
theorem minus1_s {h : Frag} {a : Value} {b : Nat} {xs : List ID} {x : ID} (ha : At h b 0 [a]) (hx : SL h 2 IDC a xs) : PSpec Tryz.prog 89 #[.agg (idc x).toArray, ptr b 0] h (fun _ v => v = .bool (decide (x ∈ xs))) := by
  obtain ⟨x1, x2⟩ := x
  refine pspec_of (vs := [.agg (idc (x1, x2)).toArray, ptr b 0]) Tryz.func89 Tryz.ntmps89 rfl rfl ?_
  (focus (refine Wr ?_; refine Tbx ?_; intro b0_1; refine Tm ?_; refine On ?_; refine Wr ?_; refine Tl ?_; refine L_one (Rd.pers ‹_›) (ty rfl) ?_; refine Tl ?_; refine Lg m0 ?_; refine S_c rfl rfl rfl (C_callv (has_s (x := (_, _)) ‹_›) rfl rfl ⟨_, _, rfl, ⟨_, _, rfl, rfl, rfl⟩, rfl⟩ (cal rfl) ?_); refine Tm ?_; refine On ?_; refine WP_ret ?_))
  refine pret (.inl rfl) rfl ⟨_, _, rfl, rfl, rfl⟩ ?_
  rfl
theorem minus_s {h : Frag} {a b : Value} {xs ys : List ID} (hx : SL h 2 IDC a xs) (hy : SL h 2 IDC b ys) : FSpec Tryz.prog 41 #[a, b] h [] (fun h' L' v => ∃ p c, v = .slice p (minusL xs ys).length c ∧ OS h' 35 2 IDC (.slice p (minusL xs ys).length c) (minusL xs ys) L') := by
  obtain ⟨pa, ca, rfl⟩ := hx.slice
  obtain ⟨pb, cb, rfl⟩ := hy.slice
  refine spec_of (vs := [.slice pa xs.length ca, .slice pb ys.length cb]) Tryz.func41 Tryz.ntmps41 rfl rfl rfl ?_
  (focus (refine Wr ?_; refine S_c rfl rfl rfl (C_box1 rfl rfl rfl ?_); intro b0_1; refine Tm ?_; refine On ?_; refine Wr ?_; refine Tm ?_; refine S_w rfl rfl rfl (W_callF [] _ (set_s ‹_›) rfl rfl ⟨_, _, rfl, rfl, rfl⟩ (cal rfl) rfl ?_); rintro h0_2 m0_2 _ l0_2 ⟨p0_2, q0_2, rfl, o0_2⟩; replace hx := hx.up l0_2; replace hy := hy.up l0_2; refine S_q rfl rfl rfl (Q_makeFunc rfl rfl ⟨_, _, rfl, rfl, rfl⟩) ?_))
  have hsl := setL_length xs
  have hxl := hx.le
  refine OPS_keepM m0_2 [_] [] rfl fun h2 l2 k2 => ?_
  have a2 := at_of_keep k2
  have hy2 := hy.up l2
  have o2 := o0_2.up l2
  refine S_w rfl rfl rfl (W_callF (M := m0_2) [] _ (deleteFunc_s (cap := [ptr b0_1 0]) (p := fun x => decide (x ∈ ys)) o2 (by omega) (cal rfl) fun h' hl x => minus1_s (a2.mono hl) (hy2.up hl)) rfl rfl ⟨_, _, rfl, ⟨_, _, rfl, rfl, rfl⟩, rfl⟩ (cal rfl) rfl ?_)
  rintro h3 M3 _ l3 ⟨e3, p3, c3, rfl, o3⟩
  (focus (refine Tm ?_; refine On ?_; refine WP_ret ?_))
  unfold minusL
  exact ret_q M3 (.inl rfl) rfl ⟨_, _, rfl, rfl, rfl⟩ (by repeat' first | exact sR _ | exact sA _ _ | exact sN _ | apply s2 | apply s1) ⟨_, _, rfl, o3⟩
end Go.Proofs.YtfhoecgiahpddaaGreat
/-
  THE UNION OF GRAPHS, in plain words: nodes put one after the other into a list that increases strictly by identity.
-/
set_option linter.all false
namespace Go.Proofs.YtfhoecgiahpddaaGreat
open Go.Mesh Go.RowKit
set_option maxRecDepth 100000
set_option linter.unusedVariables false
set_option maxHeartbeats 4000000
attribute [local irreducible] WP OPS ANY ANYo LG LV FSpec PSpec QOP OPc OPw thenQ blockQ roundQ roundF retQ retM Rd At SLB OS cmpI orI cmpID namedB valB nodeB kindB validG valAux idxI findG zeroV viewOf vwAt idxOf recv flyB scionOf moveOf numberedOf idOf valueOf mget mput localB carriedB stubOf followF followOf flOf flightsOf flPre setL minusL compactL putI
def mergeN (o n : Nd) : Option Nd :=
  if (o.kind == 3) = (n.kind == 3) then (if o = n then some o else none) else if o.cls = n.cls then some (if o.kind = 3 then n else o) else none
def insN : List Nd → Nd → Option (List Nd)
  | [], n => some [n]
  | y :: l, n => if cmpID y.id n.id < 0 then (insN l n).map (y :: ·) else if y.id = n.id then (mergeN y n).map (· :: l) else some (n :: y :: l)
/-- strictly increasing by identity -/
def SN (l : List Nd) : Prop := l.Pairwise fun a b => cmpID a.id b.id < 0
theorem mergeN_id {o n m : Nd} (h : mergeN o n = some m) (hi : o.id = n.id) : m.id = o.id := by
  unfold mergeN at h
  split at h
  · split at h
    · cases h; rfl
    · cases h
  · split at h
    · cases h; split
      · exact hi.symm
      · rfl
    · cases h
theorem findG_none_of_lt {l : List Nd} {id : ID} (h : ∀ x, x ∈ l → x.id ≠ id) : findG l id = none := by
  unfold findG; rw [List.find?_eq_none]; intro x hx; simp [h x hx]
theorem findG_cons (y : Nd) (l : List Nd) (id : ID) : findG (y :: l) id = if y.id = id then some y else findG l id := by
  unfold findG
  rw [List.find?_cons]
  by_cases h : y.id = id <;> simp [h]
theorem findG_some {l : List Nd} {id : ID} {n : Nd} (h : findG l id = some n) : n ∈ l ∧ n.id = id := by
  unfold findG at h
  exact ⟨List.mem_of_find?_eq_some h, by simpa using List.find?_some h⟩
theorem findG_mem {l : List Nd} (hs : SN l) {n : Nd} (h : n ∈ l) : findG l n.id = some n := by
  induction l with
  | nil => cases h
  | cons y l ih =>
    have h' := List.pairwise_cons.1 hs
    rw [findG_cons]
    rcases List.mem_cons.1 h with e | e
    · subst e; simp
    · have := h'.1 n e
      rw [if_neg (fun e' => by rw [e'] at this; exact cmp_irrefl _ this)]
      exact ih h'.2 e
/-- what putting a node does -/
theorem insN_spec : ∀ {l : List Nd} {n : Nd}, SN l → match findG l n.id with
    | none => ∃ l', insN l n = some l' ∧ SN l' ∧ l'.length = l.length + 1 ∧ (∀ z, z ∈ l' → z = n ∨ z ∈ l) ∧ ∀ id, findG l' id = if id = n.id then some n else findG l id
    | some o => match mergeN o n with
      | none => insN l n = none
      | some m => ∃ l', insN l n = some l' ∧ SN l' ∧ l'.length = l.length ∧ (∀ z, z ∈ l' → z = m ∨ z ∈ l) ∧ ∀ id, findG l' id = if id = n.id then some m else findG l id
  | [], n, _ => by
    have : findG [] n.id = none := by unfold findG; rfl
    rw [this]
    refine ⟨[n], rfl, by simp [SN], rfl, by simp, fun id => ?_⟩
    rw [findG_cons]
    by_cases h : n.id = id
    · simp [h]
    · rw [if_neg h, if_neg (Ne.symm h)]
  | y :: l, n, hs => by
    have h' := List.pairwise_cons.1 hs
    have ih := insN_spec (l := l) (n := n) h'.2
    rw [findG_cons]
    by_cases hlt : cmpID y.id n.id < 0
    · have hne : y.id ≠ n.id := fun e => by rw [e] at hlt; exact cmp_irrefl _ hlt
      rw [if_neg hne]
      have key : ∀ (m : Nd) (l' : List Nd), m.id = n.id → SN l' → (∀ z, z ∈ l' → z = m ∨ z ∈ l) → (∀ id, findG l' id = if id = n.id then some m else findG l id) → SN (y :: l') ∧ (∀ z, z ∈ y :: l' → z = m ∨ z ∈ y :: l) ∧ ∀ id, findG (y :: l') id = if id = n.id then some m else findG (y :: l) id := by
        intro m l' hm h1 h2 h3
        refine ⟨List.pairwise_cons.2 ⟨fun z hz => ?_, h1⟩, fun z hz => ?_, fun id => ?_⟩
        · rcases h2 z hz with e | e
          · subst e; rw [hm]; exact hlt
          · exact h'.1 z e
        · rcases List.mem_cons.1 hz with e | e
          · exact .inr (by simp [e])
          · exact (h2 z e).imp id fun e => by simp [e]
        · rw [findG_cons, findG_cons, h3]
          by_cases hid : y.id = id
          · subst hid; rw [if_pos rfl, if_neg hne, if_pos rfl]
          · rw [if_neg hid, if_neg hid]
      cases hf : findG l n.id with
      | none =>
        rw [hf] at ih
        obtain ⟨l', e1, e2, e3, e4, e5⟩ := ih
        obtain ⟨k1, k2, k3⟩ := key n l' rfl e2 e4 e5
        exact ⟨y :: l', by simp [insN, hlt, e1], k1, by simp [e3], k2, k3⟩
      | some o =>
        rw [hf] at ih
        simp only at ih ⊢
        cases hm : mergeN o n with
        | none => rw [hm] at ih; simp only at ih ⊢; simp [insN, hlt, ih]
        | some m =>
          rw [hm] at ih
          obtain ⟨l', e1, e2, e3, e4, e5⟩ := ih
          have hoi := (findG_some hf).2
          obtain ⟨k1, k2, k3⟩ := key m l' ((mergeN_id hm hoi).trans hoi) e2 e4 e5
          exact ⟨y :: l', by simp [insN, hlt, e1], k1, by simp [e3], k2, k3⟩
    · by_cases he : y.id = n.id
      · rw [if_pos he]
        simp only
        cases hm : mergeN y n with
        | none => simp only; simp [insN, hlt, he, hm]; exact fun h => absurd h (cmp_irrefl _)
        | some m =>
          have hmi := mergeN_id hm he
          refine ⟨m :: l, ?_, List.pairwise_cons.2 ⟨fun z hz => by rw [hmi]; exact h'.1 z hz, h'.2⟩, rfl, fun z hz => ?_, fun id => ?_⟩
          · simp only [insN]; rw [if_neg hlt, if_pos he, hm]; rfl
          · rcases List.mem_cons.1 hz with e | e
            · exact .inl e
            · exact .inr (by simp [e])
          · rw [findG_cons, findG_cons, hmi, he]
            by_cases hid : n.id = id
            · rw [if_pos hid, if_pos hid.symm]
            · rw [if_neg hid, if_neg (Ne.symm hid), if_neg hid]
      · rw [if_neg he]
        have hny : cmpID n.id y.id < 0 := Decidable.byContradiction fun hc => he (cmp_eq.1 ⟨hlt, hc⟩)
        have hn0 : findG l n.id = none := findG_none_of_lt fun x hx e => by
          have := cmp_trans hny (h'.1 x hx); rw [e] at this; exact cmp_irrefl _ this
        rw [hn0]
        refine ⟨n :: y :: l, by simp [insN, hlt, he], List.pairwise_cons.2 ⟨fun z hz => ?_, hs⟩, rfl, fun z hz => ?_, fun id => ?_⟩
        · rcases List.mem_cons.1 hz with e | e
          · subst e; exact hny
          · exact cmp_trans hny (h'.1 z e)
        · rcases List.mem_cons.1 hz with e | e
          · exact .inl e
          · exact .inr e
        · rw [findG_cons n]
          by_cases hid : n.id = id
          · rw [if_pos hid, if_pos hid.symm]
          · rw [if_neg hid, if_neg (Ne.symm hid)]
def insAll : List Nd → List Nd → Option (List Nd)
  | acc, [] => some acc
  | acc, n :: r => match insN acc n with | none => none | some a => insAll a r
def resU : Option (List Nd) → List Nd × Int
  | none => ([], 9)
  | some ns => (ns, 0)
def unionR (l : List (List Nd)) : List Nd × Int := if l.all validG then resU (insAll [] l.flatten) else ([], 1)
theorem insAll_drop {acc l : List Nd} {k : Nat} {x : Nd} (hx : l[k]? = some x) : insAll acc (l.drop k) = match insN acc x with | none => none | some a => insAll a (l.drop (k + 1)) := by
  rw [drop_get hx, insAll]
attribute [local irreducible] mergeN insN insAll unionR
theorem SN_unique : ∀ {l r : List Nd}, SN l → SN r → (∀ x, x ∈ l ↔ x ∈ r) → l = r
  | [], [], _, _, _ => rfl
  | [], y :: r, _, _, h => by have := (h y).2 (by simp); simp at this
  | x :: l, [], _, _, h => by have := (h x).1 (by simp); simp at this
  | x :: l, y :: r, hl, hr, h => by
    have hl' := List.pairwise_cons.1 hl
    have hr' := List.pairwise_cons.1 hr
    have hxy : x = y := by
      rcases List.mem_cons.1 ((h x).1 (by simp)) with e | e
      · exact e
      · rcases List.mem_cons.1 ((h y).2 (by simp)) with e2 | e2
        · exact e2.symm
        · exact absurd (hr'.1 x e) (cmp_asymm (hl'.1 y e2))
    subst hxy
    congr 1
    refine SN_unique hl'.2 hr'.2 fun z => ⟨fun hz => ?_, fun hz => ?_⟩
    · rcases List.mem_cons.1 ((h z).1 (by simp [hz])) with e | e
      · subst e; exact absurd (hl'.1 z hz) (cmp_irrefl _)
      · exact e
    · rcases List.mem_cons.1 ((h z).2 (by simp [hz])) with e | e
      · subst e; exact absurd (hr'.1 z hz) (cmp_irrefl _)
      · exact e
end Go.Proofs.YtfhoecgiahpddaaGreat
/-
  CONTRACTS: nodes sorted by their identities.
-/
set_option linter.all false
namespace Go.Mesh
theorem OSn.parts {h : Frag} {v : Value} {xs : List Nd} {M : Hp} (s : OS h 38 5 (NodeC 4398046511104) v xs M) (h0 : 0 < xs.length) : ∃ b cap us rest, v = .slice (some ⟨b, 0, none⟩) xs.length cap ∧ M = [(b, cells (us ++ rest) 38)] ∧ xs.length ≤ cap ∧ us.length + rest.length = cap * 5 ∧ Flat h 5 (NodeC 4398046511104) xs us := by
  obtain ⟨us, ⟨hu, ⟨rfl, h1, _⟩ | ⟨b, cap, rest, rfl, rfl, h2, h3⟩⟩, f⟩ := s
  · omega
  · exact ⟨b, cap, us, rest, rfl, rfl, h3, h2, f⟩
theorem OSn.make {h : Frag} {b n cap : Nat} {xs : List Nd} {us rest : List Value} (hn : n = xs.length) (hc : xs.length ≤ cap) (hl : us.length + rest.length = cap * 5) (f : Flat h 5 (NodeC 4398046511104) xs us) : OS h 38 5 (NodeC 4398046511104) (.slice (some ⟨b, 0, none⟩) n cap) xs [(b, cells (us ++ rest) 38)] := by
  subst hn
  exact ⟨us, ⟨f.length, .inr ⟨b, cap, rest, rfl, rfl, hl, hc⟩⟩, f⟩
/-- a node with its cells -/
abbrev NdC (h : Frag) := { q : Nd × List Value // NodeC 4398046511104 h q.1 q.2 ∧ q.2.length = 5 ∧ ones q.2 = true }
instance (h : Frag) : Inhabited (NdC h) := ⟨⟨(⟨(0, 0), 0, 0, []⟩, [.int .i64 0, .int .i64 0, .int .i64 0, .int .i64 0, .slice none 0 0]), ⟨none, 0, rfl, SLB.nil _ _ _ _ _ _⟩, rfl, rfl⟩⟩
theorem ndc_of {h : Frag} : ∀ {xs : List Nd} {us : List Value}, Flat h 5 (NodeC 4398046511104) xs us → ∃ d : List (NdC h), d.map (·.1.1) = xs ∧ d.flatMap (·.1.2) = us
  | [], _, e => ⟨[], rfl, by cases e; rfl⟩
  | x :: xs, _, ⟨vs, ws, e1, e2, e3, e4, e5⟩ => by
    obtain ⟨d, h1, h2⟩ := ndc_of e5
    exact ⟨⟨(x, vs), e4, e2, e3⟩ :: d, by simp [h1], by simp [h2, e1]⟩
theorem ndc_flat {h : Frag} : ∀ d : List (NdC h), Flat h 5 (NodeC 4398046511104) (d.map (·.1.1)) (d.flatMap (·.1.2))
  | [] => rfl
  | q :: d => ⟨q.1.2, d.flatMap (·.1.2), rfl, q.2.2.1, q.2.2.2, q.2.1, ndc_flat d⟩
end Go.Mesh
namespace Go.Proofs.YtfhoecgiahpddaaGreat
open Go.Mesh Go.RowKit
set_option maxRecDepth 100000
set_option linter.unusedVariables false
set_option maxHeartbeats 4000000
attribute [local irreducible] WP OPS ANY ANYo LG LV FSpec PSpec QOP OPc OPw thenQ blockQ roundQ roundF retQ retM Rd At SLB OS cmpI orI cmpID namedB valB nodeB kindB validG valAux idxI findG zeroV viewOf vwAt idxOf recv flyB scionOf moveOf numberedOf idOf valueOf mget mput localB carriedB stubOf followF followOf flOf flightsOf flPre setL minusL compactL putI
theorem sortNd_s {h : Frag} {p : Option Addr} {c : Nat} {xs : List Nd} {M : Hp} (hs : OS h 38 5 (NodeC 4398046511104) (.slice p xs.length c) xs M) (hxl : xs.length ≤ 4398046511104) : FSpec Tryz.prog 80 #[.slice p xs.length c, .func (.func 81) #[] #[]] h M
    (fun h' L' v => h' = h ∧ v = .tuple #[] ∧ ∃ ys : List Nd, ys.Perm xs ∧ ys.Pairwise (fun x y => ¬ cmpID y.id x.id < 0) ∧ OS h 38 5 (NodeC 4398046511104) (.slice p ys.length c) ys L') := by
  by_cases h0 : 0 < xs.length
  · obtain ⟨b, cap, us, rest, e, rfl, hcap, hrl, hf⟩ := OSn.parts hs h0
    cases e
    obtain ⟨d, rfl, rfl⟩ := ndc_of hf
    have hdl : (d.map (·.1.1)).length = d.length := List.length_map _
    have h1 := sort_spec (α := NdC h) (P := Tryz.prog) (ρ := Tryz.sortNd_ren) (k := 5) (enc := fun q => q.1.2) (cf := fun q r => cmpID q.1.1.id r.1.1.id) (e := 38) (b := b) (cap := c) (h := h) Tryz.sortNd Tryz.isAgg38 Tryz.sizeOf38 (fun q => q.2.2.1) (fun q v hv => ones_mem q.2.2.2 v hv)
      { irrefl := fun x => SWO_cmp.irrefl _, trans := fun x y z => SWO_cmp.trans _ _ _, ntrans := fun x y z => SWO_cmp.ntrans _ _ _ } (g := 81) (cal rfl) (fun x y => compare_s x.2.1 y.2.1) d rest (by omega)
    rw [hdl]
    refine FSpec.mono h1 fun h' L' v _ ⟨e1, e2, d', hp, hpw, e3⟩ => ⟨e1, e2, d'.map (·.1.1), hp.map _, List.pairwise_map.2 hpw, ?_⟩
    subst e3
    have hl := hp.length_eq
    have hf' := ndc_flat d'
    have hl1 := hf.length
    have hl2 := hf'.length
    simp only [List.length_map] at hl1 hl2 ⊢
    refine OSn.make (by simp) (by simp; omega) (by omega) hf'
  · have hx : xs = [] := List.eq_nil_of_length_eq_zero (by omega)
    subst hx
    refine FSpec.mono (sort_none Tryz.sortNd p c (.func (.func 81) #[] #[]) h M) fun h' L' v _ ⟨e1, e2, e3⟩ => ⟨e1, e2, [], List.Perm.refl _, List.Pairwise.nil, ?_⟩
    subst e3; exact hs
end Go.Proofs.YtfhoecgiahpddaaGreat
/-
  CONTRACTS: shape.Union.
-/
set_option linter.all false
namespace Go.Proofs.YtfhoecgiahpddaaGreat
open Go.Mesh Go.RowKit
set_option maxRecDepth 100000
set_option linter.unusedVariables false
set_option maxHeartbeats 4000000
attribute [local irreducible] WP OPS ANY ANYo LG LV FSpec PSpec QOP OPc OPw thenQ blockQ roundQ roundF retQ retM Rd At SLB OS cmpI orI cmpID namedB valB nodeB kindB validG valAux idxI findG zeroV viewOf vwAt idxOf recv flyB scionOf moveOf numberedOf idOf valueOf mget mput localB carriedB stubOf followF followOf flOf flightsOf flPre setL minusL compactL putI mergeN insN insAll unionR
/-- the map of nodes, and the list that it stands for -/
def NMap (h : Frag) (ps : List (ID × Value)) (ns : List Nd) : Prop := (ps.map (·.1)).Nodup ∧ SN ns ∧ ps.length = ns.length ∧ ∀ id, match mget id ps with
  | none => findG ns id = none
  | some v => ∃ p c n, v = .agg [Value.int .i64 n.id.1, .int .i64 n.id.2, .int .i64 n.kind, .int .i64 n.cls, .slice p n.fields.length c].toArray ∧ SLB 4398046511104 h 4 ValC (.slice p n.fields.length c) n.fields ∧ findG ns id = some n
theorem mput_keys (k : ID) (v : Value) : ∀ ps : List (ID × Value), (mput k v ps).map (·.1) = if (mget k ps).isSome then ps.map (·.1) else ps.map (·.1) ++ [k]
  | [] => by simp [mput, mget]
  | (q, u) :: ps => by
    simp only [mput, mget]
    by_cases h : q = k
    · simp [h]
    · simp only [if_neg h, List.map_cons, mput_keys k v ps]
      split <;> simp
theorem mget_none_keys {k : ID} : ∀ {ps : List (ID × Value)}, mget k ps = none → k ∉ ps.map (·.1)
  | [], _ => by simp
  | (q, u) :: ps, h => by
    simp only [mget] at h
    split at h
    · cases h
    · rename_i hq
      simp only [List.map_cons, List.mem_cons, not_or]
      exact ⟨Ne.symm hq, mget_none_keys h⟩
theorem NMap_nil (h : Frag) : NMap h [] [] := ⟨by simp, List.Pairwise.nil, rfl, fun id => by simp only [mget]; unfold findG; rfl⟩
abbrev ndv (n : Nd) (p : Option Addr) (c : Nat) : Value := .agg [Value.int .i64 n.id.1, .int .i64 n.id.2, .int .i64 n.kind, .int .i64 n.cls, .slice p n.fields.length c].toArray
theorem NMap_new {h : Frag} {ps : List (ID × Value)} {ns : List Nd} {n : Nd} {p : Option Addr} {c : Nat} (hN : NMap h ps ns) (hq : mget n.id ps = none) (hf : SLB 4398046511104 h 4 ValC (.slice p n.fields.length c) n.fields) :
    ∃ ns', insN ns n = some ns' ∧ ns'.length = ns.length + 1 ∧ NMap h (mput n.id (ndv n p c) ps) ns' := by
  obtain ⟨h1, h2, h3, h4⟩ := hN
  have h5 := h4 n.id
  rw [hq] at h5
  have h6 := insN_spec (n := n) h2
  rw [h5] at h6
  obtain ⟨ns', e1, e2, e3, e4, e5⟩ := h6
  have hk := mput_keys n.id (ndv n p c) ps
  rw [hq] at hk
  simp only [Option.isSome_none, Bool.false_eq_true, if_false] at hk
  refine ⟨ns', e1, e3, ?_, e2, ?_, fun id => ?_⟩
  · rw [hk, List.nodup_append]
    exact ⟨h1, by simp, fun a ha b hb e => by simp only [List.mem_singleton] at hb; subst hb; subst e; exact mget_none_keys hq ha⟩
  · have := congrArg List.length hk
    simp only [List.length_map, List.length_append, List.length_singleton] at this
    omega
  · rw [mget_mput, e5]
    by_cases hid : n.id = id
    · subst hid; simp only [if_true]; exact ⟨p, c, n, rfl, hf, rfl⟩
    · rw [if_neg hid, if_neg (Ne.symm hid)]; exact h4 id
theorem NMap_set {h : Frag} {ps : List (ID × Value)} {ns : List Nd} {n o m : Nd} {v : Value} {p : Option Addr} {c : Nat} (hN : NMap h ps ns) (hq : mget n.id ps = some v) (ho : findG ns n.id = some o) (hm : mergeN o n = some m) (hf : SLB 4398046511104 h 4 ValC (.slice p m.fields.length c) m.fields) :
    ∃ ns', insN ns n = some ns' ∧ ns'.length = ns.length ∧ NMap h (mput n.id (ndv m p c) ps) ns' := by
  obtain ⟨h1, h2, h3, h4⟩ := hN
  have h6 := insN_spec (n := n) h2
  rw [ho] at h6
  simp only [hm] at h6
  obtain ⟨ns', e1, e2, e3, e4, e5⟩ := h6
  have hk := mput_keys n.id (ndv m p c) ps
  rw [hq] at hk
  simp only [Option.isSome_some, if_true] at hk
  refine ⟨ns', e1, e3, by rw [hk]; exact h1, e2, ?_, fun id => ?_⟩
  · have := congrArg List.length hk
    simp only [List.length_map] at this
    omega
  · rw [mget_mput, e5]
    by_cases hid : n.id = id
    · subst hid; simp only [if_true]; exact ⟨p, c, m, rfl, hf, rfl⟩
    · rw [if_neg hid, if_neg (Ne.symm hid)]; exact h4 id
theorem NMap_keep {h : Frag} {ps : List (ID × Value)} {ns : List Nd} {n o : Nd} (hN : NMap h ps ns) (ho : findG ns n.id = some o) (hm : mergeN o n = some o) : ∃ ns', insN ns n = some ns' ∧ ns'.length = ns.length ∧ NMap h ps ns' := by
  obtain ⟨h1, h2, h3, h4⟩ := hN
  have h6 := insN_spec (n := n) h2
  rw [ho] at h6
  simp only [hm] at h6
  obtain ⟨ns', e1, e2, e3, e4, e5⟩ := h6
  refine ⟨ns', e1, e3, h1, e2, by omega, fun id => ?_⟩
  have := h4 id
  have h7 : findG ns' id = findG ns id := by
    rw [e5]; split
    · rename_i e; subst e; exact ho.symm
    · rfl
  rw [h7]; exact this
theorem NMap_err {h : Frag} {ps : List (ID × Value)} {ns : List Nd} {n o : Nd} (hN : NMap h ps ns) (ho : findG ns n.id = some o) (hm : mergeN o n = none) : insN ns n = none := by
  have h6 := insN_spec (n := n) hN.2.1
  rw [ho] at h6
  simpa only [hm] using h6
theorem NMap_get {h : Frag} {ps : List (ID × Value)} {ns : List Nd} {id : ID} {v : Value} (hN : NMap h ps ns) (hq : mget id ps = some v) : ∃ p c n, v = ndv n p c ∧ SLB 4398046511104 h 4 ValC (.slice p n.fields.length c) n.fields ∧ findG ns id = some n := by
  have := hN.2.2.2 id
  rw [hq] at this
  exact this
theorem NMap.up {h h' : Frag} {ps : List (ID × Value)} {ns : List Nd} (x : NMap h ps ns) (hl : le h h') : NMap h' ps ns := by
  refine ⟨x.1, x.2.1, x.2.2.1, fun id => ?_⟩
  have := x.2.2.2 id
  cases hq : mget id ps with
  | none => rw [hq] at this; exact this
  | some v =>
    rw [hq] at this
    obtain ⟨p, c, n, e1, e2, e3⟩ := this
    exact ⟨p, c, n, e1, e2.up hl, e3⟩
theorem nodup_subN : ∀ (l r : List Nat), l.Nodup → (∀ x, x ∈ l → x ∈ r) → l.length ≤ r.length
  | [], _, _, _ => by simp
  | x :: l, r, hn, hs => by
    rw [List.nodup_cons] at hn
    have hx := hs x (by simp)
    have := nodup_subN l (r.erase x) hn.2 (fun y hy => (List.mem_erase_of_ne (fun e : y = x => hn.1 (by rw [← e]; exact hy))).2 (hs y (by simp [hy])))
    have hl := List.length_erase_of_mem hx
    have : 0 < r.length := List.length_pos_of_mem hx
    simp; omega
theorem mget_at {ps : List (ID × Value)} (hn : (ps.map (·.1)).Nodup) {i : Nat} {k : ID} {v : Value} (h : ps[i]? = some (k, v)) : mget k ps = some v := by
  induction ps generalizing i with
  | nil => simp at h
  | cons p ps ih =>
    obtain ⟨q, u⟩ := p
    rw [List.map_cons, List.nodup_cons] at hn
    simp only [mget]
    cases i with
    | zero => simp at h; rw [if_pos h.1, h.2]
    | succ i =>
      have h2 : ps[i]? = some (k, v) := by simpa using h
      have : k ∈ ps.map (·.1) := List.mem_map.2 ⟨_, List.mem_of_getElem? h2, rfl⟩
      rw [if_neg (fun e => hn.1 (by rw [e]; exact this))]
      exact ih hn.2 h2
theorem mget_idx {ps : List (ID × Value)} {k : ID} {v : Value} (h : mget k ps = some v) : ∃ i : Nat, ps[i]? = some (k, v) := by
  induction ps with
  | nil => simp [mget] at h
  | cons p ps ih =>
    obtain ⟨q, u⟩ := p
    simp only [mget] at h
    split at h
    · rename_i e; cases h; exact ⟨0, by simp [e]⟩
    · obtain ⟨i, hi⟩ := ih h; exact ⟨i + 1, by simpa using hi⟩
/-- what has been collected of a map -/
def Coll (ps : List (ID × Value)) (ns : List Nd) (seen : List Nat) (outs : List Nd) : Prop := seen.Nodup ∧ (∀ i, i ∈ seen → i < ps.length) ∧ outs.length = seen.length ∧ ∀ t i : Nat, seen[t]? = some i → ∃ k v, ps[i]? = some (k, v) ∧ findG ns k = outs[t]?
theorem Coll_nil (ps : List (ID × Value)) (ns : List Nd) : Coll ps ns [] [] := ⟨List.nodup_nil, by simp, rfl, by simp⟩
theorem Coll_snoc {ps : List (ID × Value)} {ns : List Nd} {seen : List Nat} {outs : List Nd} (c : Coll ps ns seen outs) {i : Nat} {k : ID} {v : Value} {n : Nd} (hi : i ∉ seen) (hp : ps[i]? = some (k, v)) (hf : findG ns k = some n) : Coll ps ns (seen ++ [i]) (outs ++ [n]) := by
  obtain ⟨h1, h2, h3, h4⟩ := c
  refine ⟨?_, fun x hx => ?_, by simp [h3], fun t x hx => ?_⟩
  · rw [List.nodup_append]; exact ⟨h1, by simp, fun a ha b hb e => by simp at hb; subst hb; subst e; exact hi ha⟩
  · rcases List.mem_append.1 hx with hx | hx
    · exact h2 x hx
    · simp at hx; subst hx; exact (List.getElem?_eq_some_iff.1 hp).1
  · rw [List.getElem?_append] at hx
    split at hx
    · rename_i hlt
      obtain ⟨k', v', e1, e2⟩ := h4 t x hx
      exact ⟨k', v', e1, by rw [List.getElem?_append_left (by omega)]; exact e2⟩
    · rename_i hge
      have ht : t - seen.length = 0 := by
        have := (List.getElem?_eq_some_iff.1 hx).1; simp at this; omega
      rw [ht] at hx
      simp at hx; subst hx
      refine ⟨k, v, hp, ?_⟩
      have : t = outs.length := by omega
      subst this
      rw [List.getElem?_append_right (Nat.le_refl _)]; simpa using hf
theorem Coll_le {ps : List (ID × Value)} {ns : List Nd} {seen : List Nat} {outs : List Nd} (c : Coll ps ns seen outs) : seen.length ≤ ps.length := by
  have := nodup_subN seen (List.range ps.length) c.1 (fun x hx => List.mem_range.2 (c.2.1 x hx))
  simpa using this
theorem Coll_end {h : Frag} {ps : List (ID × Value)} {ns : List Nd} {seen : List Nat} {outs ys : List Nd} (hN : NMap h ps ns) (c : Coll ps ns seen outs) (hall : ∀ i, i < ps.length → i ∈ seen) (hp : ys.Perm outs) (hs : ys.Pairwise fun x y => ¬ cmpID y.id x.id < 0) : ys = ns := by
  obtain ⟨n1, n2, n3, n4⟩ := hN
  obtain ⟨c1, c2, c3, c4⟩ := c
  have hids : outs.Pairwise fun x y => x.id ≠ y.id := by
    rw [List.pairwise_iff_getElem]
    intro i j hi hj hij e
    have hsi : seen[i]? = some seen[i] := by simp
    have hsj : seen[j]? = some seen[j] := by simp
    obtain ⟨k1, v1, p1, f1⟩ := c4 i _ hsi
    obtain ⟨k2, v2, p2, f2⟩ := c4 j _ hsj
    rw [List.getElem?_eq_getElem hi] at f1
    rw [List.getElem?_eq_getElem hj] at f2
    have e1 := (findG_some f1).2
    have e2 := (findG_some f2).2
    have hk : k1 = k2 := by rw [← e1, ← e2, e]
    have hne : seen[i] ≠ seen[j] := fun e' => by
      have := (List.nodup_iff_pairwise_ne.1 c1)
      exact (List.pairwise_iff_getElem.1 this) i j (by omega) (by omega) hij e'
    have q1 : (ps.map (·.1))[seen[i]]? = some k1 := by simp [p1]
    have q2 : (ps.map (·.1))[seen[j]]? = some k2 := by simp [p2]
    obtain ⟨l1, g1⟩ := List.getElem?_eq_some_iff.1 q1
    obtain ⟨l2, g2⟩ := List.getElem?_eq_some_iff.1 q2
    have hinj := List.pairwise_iff_getElem.1 (List.nodup_iff_pairwise_ne.1 n1)
    rcases Nat.lt_or_gt_of_ne hne with hl | hl
    · exact hinj _ _ l1 l2 hl (by rw [g1, g2, hk])
    · exact hinj _ _ l2 l1 hl (by rw [g1, g2, hk])
  have hys : SN ys := by
    have h1 : ys.Pairwise fun x y => x.id ≠ y.id := hp.symm.pairwise hids (fun h => Ne.symm h)
    exact (hs.and h1).imp fun ⟨a, b⟩ => Decidable.byContradiction fun hc => b (cmp_eq.1 ⟨hc, a⟩)
  refine SN_unique hys n2 fun x => ?_
  rw [hp.mem_iff]
  constructor
  · intro hx
    obtain ⟨t, ht⟩ := List.getElem?_of_mem hx
    have hlt := (List.getElem?_eq_some_iff.1 ht).1
    obtain ⟨k, v, p1, f1⟩ := c4 t seen[t] (by simp)
    rw [ht] at f1
    exact (findG_some f1).1
  · intro hx
    have hf := findG_mem n2 hx
    have hq := n4 x.id
    cases hm : mget x.id ps with
    | none => rw [hm] at hq; rw [hq] at hf; cases hf
    | some v =>
      obtain ⟨i, hi⟩ := mget_idx hm
      obtain ⟨t, ht⟩ := List.getElem?_of_mem (hall i (List.getElem?_eq_some_iff.1 hi).1)
      obtain ⟨k', v', p1, f1⟩ := c4 t i ht
      rw [hi] at p1; cases p1
      rw [hf] at f1
      exact List.mem_of_getElem? f1.symm
theorem NMap.nodup {h : Frag} {ps : List (ID × Value)} {ns : List Nd} (x : NMap h ps ns) : (ps.map (·.1)).Nodup := x.1
theorem NMap.len {h : Frag} {ps : List (ID × Value)} {ns : List Nd} (x : NMap h ps ns) : ps.length = ns.length := x.2.2.1
theorem Coll.len {ps : List (ID × Value)} {ns : List Nd} {seen : List Nat} {outs : List Nd} (c : Coll ps ns seen outs) : outs.length = seen.length := c.2.2.1
attribute [local irreducible] NMap Coll
theorem union_s {h : Frag} {a : Value} {l : List (List Nd)} (hs : SL h 1 (GraphC 4398046511104) a l) (hb : l.flatten.length ≤ 1000000) : PSpec Tryz.prog 36 #[a] h (fun h' v => ∃ us, v = .tuple #[.agg us.toArray, .int .i64 (unionR l).2] ∧ GraphC 4398046511104 h' (unionR l).1 us) := by
  have hl := hs.le
  refine pspec_of (vs := [a]) Tryz.func36 Tryz.ntmps36 rfl rfl ?_
  (focus (refine Wr ?_; refine Tal ?_; intro b0_1; refine Tm ?_; refine On ?_; refine WP_seq ?_; refine Wr ?_; refine Tm ?_; refine S_q rfl rfl rfl (Q_lenS rfl rfl rfl rfl rfl rfl ‹_›) ?_; refine Tm ?_; refine On ?_; refine WP_block ?_))
  (refine WP_loopC (α := Nat) [17, 16, 2, 0] (fun (k : Nat) => l.length - k) (fun (k : Nat) => [(18, .int .i64 k)]) (fun hh (k : Nat) => hh = h ∧ k ≤ l.length ∧ (l.drop k).all validG = l.all validG) 0 ⟨_, _, rfl, ⟨_, _, rfl, ⟨_, _, rfl, ⟨_, _, rfl, rfl, rfl⟩, rfl⟩, rfl⟩, rfl⟩ (by repeat' first | exact trivial | refine ⟨rfl, ?_⟩) ?_ ?_)
  · exact ⟨rfl, Nat.zero_le _, rfl⟩
  rintro h1 k _ ⟨rfl, hk, ht⟩
  by_cases hlt : k < l.length
  · obtain ⟨g, eg⟩ := get_of hlt
    have had := all_drop (p := validG) eg
    (focus (refine Wr ?_; refine Tc ?_; refine On ?_; refine WP_seq ?_; refine Wc ?_ ?_ <;> intro c2_1 <;> (first | simp [*] at c2_1; done | try simp at c2_1); refine WP_skip ?_; refine then_n ?_; refine WP_seq ?_; refine WP_block ?_; refine Wr ?_; refine Ti ?_; refine Tl ?_; refine Le ?_; rintro _ _ _ ⟨pg2_2, qg2_2, rfl, fg2_2⟩; refine Tal ?_; intro b2_3; refine Tw u0 ?_; refine On ?_; refine Wr ?_; refine Tl ?_; refine Lg m0 ?_; refine S_c rfl rfl rfl (C_callv (valid_s ⟨_, _, rfl, by assumption⟩) rfl rfl ⟨_, _, rfl, rfl, rfl⟩ (cal rfl) ?_); refine S_q rfl rfl rfl (Q_not rfl rfl) ?_; refine On ?_; refine Wc ?_ ?_ <;> intro c2_4 <;> (first | simp [*] at c2_4; done | try simp at c2_4); (focus (refine Wr ?_; refine S_q rfl rfl rfl (Q_build rfl (by decide +kernel) (zer rfl) rfl rfl) ?_; refine Tw u1 ?_; refine Tm ?_; refine On ?_; refine WP_ret ?_; refine block_r ?_; refine then_r ?_; refine roundF_r ?_; refine block_r ?_; refine then_r ?_)); rotate_left 1; (focus (refine WP_skip ?_; refine block_n ?_; refine then_n ?_; refine R_region ?_; refine Ta ?_; refine Tm ?_; refine OPS_nil ?_)); rotate_left 1))
    · have hr : unionR l = ([], 1) := by
        have : l.all validG = false := by rw [← ht, had, c2_4]; rfl
        rw [unionR, this]; rfl
      refine pret (.inl rfl) rfl ⟨_, _, _, rfl, Loads_agg (Rd.own m1) (ty rfl) rfl, ⟨_, _, rfl, rfl, rfl⟩, rfl⟩ ?_
      rw [hr]; exact ⟨_, rfl, _, _, rfl, SLB.nil _ _ _ _ _ _⟩
    · refine roundF_n (k + 1) (by omega) ⟨rfl, by omega, ?_⟩ (by repeat' first | exact sR _ | exact sA _ _ | exact sN _ | apply s2 | apply s1) (by repeat' first | exact trivial | refine ⟨rfl, ?_⟩)
      rw [← ht, had, c2_4]; rfl
  · have hge : k = l.length := by omega
    subst hge
    have hall : l.all validG = true := by rw [← ht]; simp
    have hun : unionR l = resU (insAll [] l.flatten) := by rw [unionR, if_pos hall]
    clear ht hall
    (focus (refine Wr ?_; refine Tc ?_; refine On ?_; refine WP_seq ?_; refine Wc ?_ ?_ <;> intro c3_1 <;> (first | simp [*] at c3_1; done | try simp at c3_1); refine WP_exit ?_; refine then_e ?_; refine roundF_e ?_; refine block_e ?_; refine then_n ?_; refine Wr ?_; refine S_c rfl rfl rfl (C_makeMapK idk rfl rfl ?_); intro b3_2; refine Tm ?_; refine On ?_; refine WP_seq ?_; refine Wr ?_; refine Tm ?_; refine S_q rfl rfl rfl (Q_lenS rfl rfl rfl rfl rfl rfl ‹_›) ?_; refine Tm ?_; refine On ?_; refine WP_block ?_))
    (refine WP_loopM (α := Nat × List (ID × Value) × List Nd) []  _ [29, 28, 6, 2] (fun (s : Nat × List (ID × Value) × List Nd) => l.length - s.1) (fun (s : Nat × List (ID × Value) × List Nd) =>  [(b3_2, mapObj idv s.2.1)]) (fun (s : Nat × List (ID × Value) × List Nd) => [(30, .int .i64 s.1)]) (fun hh (s : Nat × List (ID × Value) × List Nd) => hh = h1 ∧ s.1 ≤ l.length ∧ NMap h1 s.2.1 s.2.2 ∧ s.2.2.length ≤ (l.take s.1).flatten.length ∧ insAll s.2.2 (l.drop s.1).flatten = insAll [] l.flatten) (0, [], []) rfl ⟨_, _, rfl, ⟨_, _, rfl, ⟨_, _, rfl, ⟨_, _, rfl, rfl, rfl⟩, rfl⟩, rfl⟩, rfl⟩ (by repeat' first | exact trivial | refine ⟨rfl, ?_⟩) ?_ ?_)
    · exact ⟨rfl, Nat.zero_le _, NMap_nil _, Nat.zero_le _, rfl⟩
    rintro h1 ⟨k, ps, ns⟩ _ ⟨rfl, hk, hN, hnl, hins⟩
    simp only at hk hN hnl hins
    dsimp only
    by_cases hlt : k < l.length
    · obtain ⟨g, eg⟩ := get_of hlt
      have hdg : (l.drop k).flatten = g ++ (l.drop (k + 1)).flatten := by rw [drop_get eg]; simp
      rw [hdg] at hins
      (focus (refine Wr ?_; refine Tc ?_; refine On ?_; refine WP_seq ?_; refine Wc ?_ ?_ <;> intro c5_1 <;> (first | simp [*] at c5_1; done | try simp at c5_1); refine WP_skip ?_; refine then_n ?_; refine WP_seq ?_; refine WP_block ?_; refine Wr ?_; refine Ti ?_; refine Tl ?_; refine Le ?_; rintro _ _ _ ⟨pg5_2, qg5_2, rfl, fg5_2⟩; refine Tal ?_; intro b5_3; refine Tw u0 ?_; refine On ?_; refine Wr ?_; refine Tf ?_; refine Tl ?_; refine L_one (Rd.own m0) (ty rfl) ?_; refine Tlen ?_; refine Tm ?_; refine On ?_; refine WP_block ?_))
      have hgl := fg5_2.le
      (refine WP_loopM (α := Nat × List (ID × Value) × List Nd) [_]  _ [36, 35, 30, 29, 28, 6, 2] (fun (s : Nat × List (ID × Value) × List Nd) => g.length - s.1) (fun (s : Nat × List (ID × Value) × List Nd) =>  [(b3_2, mapObj idv s.2.1)]) (fun (s : Nat × List (ID × Value) × List Nd) => [(37, .int .i64 s.1)]) (fun hh (s : Nat × List (ID × Value) × List Nd) => hh = h1 ∧ s.1 ≤ g.length ∧ NMap h1 s.2.1 s.2.2 ∧ s.2.2.length ≤ (l.take k).flatten.length + s.1 ∧ insAll s.2.2 (g.drop s.1 ++ (l.drop (k + 1)).flatten) = insAll [] l.flatten) (0, ps, ns) rfl ⟨_, _, rfl, ⟨_, _, rfl, ⟨_, _, rfl, ⟨_, _, rfl, ⟨_, _, rfl, ⟨_, _, rfl, ⟨_, _, rfl, rfl, rfl⟩, rfl⟩, rfl⟩, rfl⟩, rfl⟩, rfl⟩, rfl⟩ (by repeat' first | exact trivial | refine ⟨rfl, ?_⟩) ?_ ?_)
      · exact ⟨rfl, Nat.zero_le _, hN, hnl, hins⟩
      clear hN hnl hins ps ns
      rintro h1 ⟨j, ps, ns⟩ _ ⟨rfl, hj, hN, hnl, hins⟩
      simp only at hj hN hnl hins
      dsimp only
      by_cases hlt2 : j < g.length
      · obtain ⟨⟨⟨i1, i2⟩, kd, cl, fs⟩, ex⟩ := get_of hlt2
        rw [drop_get ex, List.cons_append, insAll] at hins
        cases hq : mget (i1, i2) ps with
        | none =>
          (focus (refine Wr ?_; refine Tc ?_; refine On ?_; refine WP_seq ?_; refine Wc ?_ ?_ <;> intro c7_1 <;> (first | simp [*] at c7_1; done | try simp at c7_1); refine WP_skip ?_; refine then_n ?_; refine WP_seq ?_; refine WP_block ?_; refine Wr ?_; refine Ti ?_; refine Tl ?_; refine Le ?_; rintro _ _ _ ⟨pn7_2, qn7_2, rfl, fn7_2⟩; refine Tal ?_; intro b7_3; refine Tw u0 ?_; refine On ?_; refine Wr ?_; refine Tm ?_; refine Tf ?_; refine Tl ?_; refine L_sub (Rd.own m0) (ty rfl) rfl ?_; refine S_q rfl rfl rfl (Q_lookupOkN rfl rfl (key_id rfl) idk rfl rfl (.inr m2) ‹_›) ?_; refine Tm ?_; refine Tx ?_; refine Tx ?_; refine Tal ?_; intro b7_4; refine Tw u0 ?_; refine Tm ?_; refine On ?_; refine WP_block ?_; refine Wr ?_; refine Tm ?_; refine S_q rfl rfl rfl (Q_not rfl rfl) ?_; refine Tm ?_; refine On ?_; refine cond_t rfl ?_; refine R_region ?_; refine Tm ?_; refine Tf ?_; refine Tl ?_; refine L_sub (Rd.own m1) (ty rfl) rfl ?_; refine Tl ?_; refine Lg m1 ?_; refine S_w0 rfl rfl (W_mapUpdate rfl rfl (key_id rfl) rfl idk rfl u3 ?_); refine OPS_nil ?_; refine block_n ?_; refine block_n ?_; refine then_n ?_; refine R_region ?_; refine Ta ?_; refine Tm ?_; refine OPS_nil ?_))
          obtain ⟨ns', e1, e2, e3⟩ := NMap_new (n := ⟨(i1, i2), kd, cl, fs⟩) hN hq fn7_2
          rw [e1] at hins
          exact roundF_n (j + 1, mput (i1, i2) (ndv ⟨(i1, i2), kd, cl, fs⟩ pn7_2 qn7_2) ps, ns') (by simp only; omega) ⟨rfl, by simp only; omega, e3, by simp only; omega, hins⟩ (by repeat' first | exact sR _ | exact sA _ _ | exact sN _ | apply s2 | apply s1) (by repeat' first | exact trivial | refine ⟨rfl, ?_⟩)
        | some v =>
          obtain ⟨pv, cv, o, rfl, fo, ho⟩ := NMap_get hN hq
          (focus (refine Wr ?_; refine Tc ?_; refine On ?_; refine WP_seq ?_; refine Wc ?_ ?_ <;> intro c8_1 <;> (first | simp [*] at c8_1; done | try simp at c8_1); refine WP_skip ?_; refine then_n ?_; refine WP_seq ?_; refine WP_block ?_; refine Wr ?_; refine Ti ?_; refine Tl ?_; refine Le ?_; rintro _ _ _ ⟨pn8_2, qn8_2, rfl, fn8_2⟩; refine Tal ?_; intro b8_3; refine Tw u0 ?_; refine On ?_; refine Wr ?_; refine Tm ?_; refine Tf ?_; refine Tl ?_; refine L_sub (Rd.own m0) (ty rfl) rfl ?_; refine S_q rfl rfl rfl (Q_lookupOkS rfl rfl (key_id rfl) idk rfl rfl (.inr m2) ‹_›) ?_; refine Tm ?_; refine Tx ?_; refine Tx ?_; refine Tal ?_; intro b8_4; refine Tw u0 ?_; refine Tm ?_; refine On ?_; refine WP_block ?_; refine Wr ?_; refine Tm ?_; refine S_q rfl rfl rfl (Q_not rfl rfl) ?_; refine Tm ?_; refine On ?_; refine cond_f rfl ?_; refine Wr ?_; refine Tf ?_; refine Tl ?_; refine Lo m0 ?_; refine Tc ?_; refine Tf ?_; refine Tl ?_; refine Lo m1 ?_; refine Tc ?_; refine S_q rfl rfl rfl (Q_bne rfl rfl rfl rfl) ?_; refine Tm ?_; refine On ?_; refine Wc ?_ ?_ <;> intro c8_5 <;> (first | simp [*] at c8_5; done | try simp at c8_5); (focus (refine WP_seq ?_; refine Wr ?_; refine Tf ?_; refine Tl ?_; refine Lo m0 ?_; refine Tf ?_; refine Tl ?_; refine Lo m1 ?_; refine Tc ?_; refine On ?_; refine Wc ?_ ?_ <;> intro c8_6 <;> (first | simp [*] at c8_6; done | try simp at c8_6); (focus (refine Wr ?_; refine S_q rfl rfl rfl (Q_build rfl (by decide +kernel) (zer rfl) rfl rfl) ?_; refine Tw u4 ?_; refine Tm ?_; refine On ?_; refine WP_ret ?_; refine then_r ?_; refine block_r ?_; refine block_r ?_; refine then_r ?_; refine roundF_r ?_; refine block_r ?_; refine block_r ?_; refine then_r ?_; refine roundF_r ?_; refine block_r ?_; refine then_r ?_)); rotate_left 1; (focus (refine WP_skip ?_; refine then_n ?_; refine Wr ?_; refine Tf ?_; refine Tl ?_; refine Lo m0 ?_; refine Tc ?_; refine On ?_; refine Wc ?_ ?_ <;> intro c8_7 <;> (first | simp [*] at c8_7; done | try simp at c8_7); (focus (refine R_region ?_; refine Tm ?_; refine Tf ?_; refine Tl ?_; refine L_sub (Rd.own m1) (ty rfl) rfl ?_; refine Tl ?_; refine Lg m1 ?_; refine S_w0 rfl rfl (W_mapUpdate rfl rfl (key_id rfl) rfl idk rfl u3 ?_); refine OPS_nil ?_; refine block_n ?_; refine block_n ?_; refine then_n ?_; refine R_region ?_; refine Ta ?_; refine Tm ?_; refine OPS_nil ?_)); rotate_left 1; (focus (refine WP_skip ?_; refine block_n ?_; refine block_n ?_; refine then_n ?_; refine R_region ?_; refine Ta ?_; refine Tm ?_; refine OPS_nil ?_)); rotate_left 1)); rotate_left 2)); rotate_left 3; (focus (refine Wr ?_; refine Tl ?_; refine Lg m0 ?_; refine Tl ?_; refine Lg m1 ?_; refine S_c rfl rfl rfl (C_callv (sameNode_s ⟨_, _, rfl, by assumption⟩ ⟨_, _, rfl, by assumption⟩) rfl rfl ⟨_, _, rfl, ⟨_, _, rfl, rfl, rfl⟩, rfl⟩ (cal rfl) ?_); refine S_q rfl rfl rfl (Q_not rfl rfl) ?_; refine Tm ?_; refine On ?_; refine Wc ?_ ?_ <;> intro c8_8 <;> (first | simp [*] at c8_8; done | try simp at c8_8); (focus (refine Wr ?_; refine S_q rfl rfl rfl (Q_build rfl (by decide +kernel) (zer rfl) rfl rfl) ?_; refine Tw u4 ?_; refine Tm ?_; refine On ?_; refine WP_ret ?_; refine block_r ?_; refine block_r ?_; refine then_r ?_; refine roundF_r ?_; refine block_r ?_; refine block_r ?_; refine then_r ?_; refine roundF_r ?_; refine block_r ?_; refine then_r ?_)); rotate_left 1; (focus (refine WP_skip ?_; refine block_n ?_; refine block_n ?_; refine then_n ?_; refine R_region ?_; refine Ta ?_; refine Tm ?_; refine OPS_nil ?_)); rotate_left 1)); rotate_left 2))
          · have hm : mergeN o ⟨(i1, i2), kd, cl, fs⟩ = none := by rw [mergeN, if_neg c8_5, if_neg c8_6]
            rw [NMap_err hN ho hm] at hins
            refine pret (.inl rfl) rfl ⟨_, _, _, rfl, Loads_agg (Rd.own m4) (ty rfl) rfl, ⟨_, _, rfl, rfl, rfl⟩, rfl⟩ ?_
            rw [hun, ← hins]; exact ⟨_, rfl, _, _, rfl, SLB.nil _ _ _ _ _ _⟩
          · have hm : mergeN o ⟨(i1, i2), kd, cl, fs⟩ = some ⟨(i1, i2), kd, cl, fs⟩ := by rw [mergeN, if_neg c8_5, if_pos c8_6, if_pos c8_7]
            obtain ⟨ns', e1, e2, e3⟩ := NMap_set hN hq ho hm fn8_2
            rw [e1] at hins
            exact roundF_n (j + 1, mput (i1, i2) (ndv ⟨(i1, i2), kd, cl, fs⟩ pn8_2 qn8_2) ps, ns') (by simp only; omega) ⟨rfl, by simp only; omega, e3, by simp only; omega, hins⟩ (by repeat' first | exact sR _ | exact sA _ _ | exact sN _ | apply s2 | apply s1) (by repeat' first | exact trivial | refine ⟨rfl, ?_⟩)
          · have hm : mergeN o ⟨(i1, i2), kd, cl, fs⟩ = some o := by rw [mergeN, if_neg c8_5, if_pos c8_6, if_neg c8_7]
            obtain ⟨ns', e1, e2, e3⟩ := NMap_keep hN ho hm
            rw [e1] at hins
            exact roundF_n (j + 1, ps, ns') (by simp only; omega) ⟨rfl, by simp only; omega, e3, by simp only; omega, hins⟩ (by repeat' first | exact sR _ | exact sA _ _ | exact sN _ | apply s2 | apply s1) (by repeat' first | exact trivial | refine ⟨rfl, ?_⟩)
          · have hm : mergeN o ⟨(i1, i2), kd, cl, fs⟩ = none := by rw [mergeN, if_pos c8_5, if_neg c8_8]
            rw [NMap_err hN ho hm] at hins
            refine pret (.inl rfl) rfl ⟨_, _, _, rfl, Loads_agg (Rd.own m4) (ty rfl) rfl, ⟨_, _, rfl, rfl, rfl⟩, rfl⟩ ?_
            rw [hun, ← hins]; exact ⟨_, rfl, _, _, rfl, SLB.nil _ _ _ _ _ _⟩
          · have hm : mergeN o ⟨(i1, i2), kd, cl, fs⟩ = some o := by rw [mergeN, if_pos c8_5, if_pos c8_8]
            obtain ⟨ns', e1, e2, e3⟩ := NMap_keep hN ho hm
            rw [e1] at hins
            exact roundF_n (j + 1, ps, ns') (by simp only; omega) ⟨rfl, by simp only; omega, e3, by simp only; omega, hins⟩ (by repeat' first | exact sR _ | exact sA _ _ | exact sN _ | apply s2 | apply s1) (by repeat' first | exact trivial | refine ⟨rfl, ?_⟩)
      · have hge : j = g.length := by omega
        subst hge
        (focus (refine Wr ?_; refine Tc ?_; refine On ?_; refine WP_seq ?_; refine Wc ?_ ?_ <;> intro c9_1 <;> (first | simp [*] at c9_1; done | try simp at c9_1); refine WP_exit ?_; refine then_e ?_; refine roundF_e ?_; refine block_e ?_; refine block_n ?_; refine then_n ?_; refine R_region ?_; refine Ta ?_; refine Tm ?_; refine OPS_nil ?_))
        refine roundF_n (k + 1, ps, ns) (by simp only; omega) ⟨rfl, by simp only; omega, hN, ?_, ?_⟩ (by repeat' first | exact sR _ | exact sA _ _ | exact sN _ | apply s2 | apply s1) (by repeat' first | exact trivial | refine ⟨rfl, ?_⟩)
        · simp only; rw [List.take_add_one, eg]; simpa using hnl
        · simpa using hins
    · have hge : k = l.length := by omega
      subst hge
      rw [List.drop_length] at hins
      have hins' : insAll [] l.flatten = some ns := by rw [← hins, List.flatten_nil, insAll]
      rw [hins', resU] at hun
      rw [List.take_length] at hnl
      clear hins hins'
      (focus (refine Wr ?_; refine Tc ?_; refine On ?_; refine WP_seq ?_; refine Wc ?_ ?_ <;> intro c10_1 <;> (first | simp [*] at c10_1; done | try simp at c10_1); refine WP_exit ?_; refine then_e ?_; refine roundF_e ?_; refine block_e ?_; refine then_n ?_; refine Wr ?_; refine Tal ?_; intro b10_2; refine On ?_; refine WP_seq ?_; refine Wr ?_; refine Tm ?_; refine S_c rfl rfl rfl (C_range rfl rfl rfl (.inr m1) ?_); intro b10_3; refine On ?_; refine WP_block ?_))
      refine WP_keepM [_, _] [(b3_2, mapObj idv ps)] [_] rfl fun h2 hle hmm => ?_
      have hmp : IsMapP idv h2 b3_2 ps := hmm (b3_2, mapObj idv ps) (by simp)
      have hN := hN.up hle
      (refine WP_loopF (α := List Nat × List Nd × Option Addr × Nat × Hp) [85, 13, 2] (fun (s : List Nat × List Nd × Option Addr × Nat × Hp) => ps.length - s.1.length) (fun (s : List Nat × List Nd × Option Addr × Nat × Hp) => (b10_3, iterObj b3_2 ps.length s.1) :: (b10_2, cells [.slice s.2.2.1 s.2.1.length s.2.2.2.1] 27) :: (b0_1, cells [.slice none 0 0] 27) :: (s.2.2.2.2 ++ [])) (fun (s : List Nat × List Nd × Option Addr × Nat × Hp) => []) (fun hh (s : List Nat × List Nd × Option Addr × Nat × Hp) => le h2 hh ∧ Coll ps ns s.1 s.2.1 ∧ OS hh 38 5 (NodeC 4398046511104) (.slice s.2.2.1 s.2.1.length s.2.2.2.1) s.2.1 s.2.2.2.2) ([], [], none, 0, []) ⟨_, _, rfl, ⟨_, _, rfl, ⟨_, _, rfl, rfl, rfl⟩, rfl⟩, rfl⟩ ?_ (by repeat' first | exact sR _ | exact sA _ _ | exact sN _ | apply s2 | apply s1) (by repeat' first | exact trivial | refine ⟨rfl, ?_⟩) ?_)
      · exact ⟨le_refl _, Coll_nil _ _, OS.nil _ _ _ _⟩
      rintro h3 ⟨seen, outs, p, c, M⟩ _ ⟨hl3, hC, hO⟩
      simp only at hC hO
      dsimp only
      have hmp := hmp.up hl3
      have hN := hN.up hl3
      have hcl := Coll_le hC
      have hpn := hN.len
      have hol := hC.len
      (focus (refine Wr ?_))
      refine S_w rfl rfl rfl (W_next (fun ob => (b10_3, ob) :: (b10_2, cells [.slice p outs.length c] 27) :: (b0_1, cells [.slice none 0 0] 27) :: (M ++ [])) rfl rfl (.inl hmp) (fun ob => Upd.head _) ?_ ?_)
      · intro i k v hpi hns
        obtain ⟨pv, cv, n, rfl, fo, ho⟩ := NMap_get hN (mget_at hN.nodup hpi)
        have hC' := Coll_snoc hC hns hpi ho
        have hcl' := Coll_le hC'
        simp only [List.length_append, List.length_singleton] at hcl'
        (focus (refine Tx ?_; refine On ?_; refine WP_seq ?_; refine cond_t rfl ?_; refine WP_skip ?_; refine then_n ?_; refine WP_block ?_; refine Wr ?_; refine S_q rfl rfl rfl (Q_entry rfl rfl (.inl ‹_›) m0 ‹_›) ?_; refine Tx ?_; refine Tal ?_; intro b13_1; refine Tw u0 ?_; refine On ?_; refine R_draw (n := 8) mixed rfl ?_; refine Va 0 ?_; refine Vf 1 ?_; refine Va 1 ?_; refine Vl 3 ?_; refine L_one (Rd.own m2) (ty rfl) ?_; refine Va 2 ?_; refine Vl 7 ?_; refine Lg m0 ?_; refine Va 3 ?_; refine A_c (m' := 15) rfl rfl rfl rfl (by decide +kernel) (C_call (copyNode_s ⟨_, _, rfl, by assumption⟩) rfl rfl ⟨_, _, rfl, rfl, rfl⟩ (cal rfl) ?_); rintro h13_2 _ l13_2 ⟨pc13_2, qc13_2, rfl, fc13_2⟩; replace hO := hO.up l13_2; replace hmp := hmp.up l13_2; replace hN := hN.up l13_2; replace fo := fo.up l13_2; refine Va 4 ?_; refine A_c (m' := 31) rfl rfl rfl rfl (by decide +kernel) (C_buildSlice rfl (elm rfl) (zer rfl) rfl ⟨_, _, _, rfl, rfl, rfl, rfl, rfl, rfl⟩ rfl rfl ?_); intro b13_3))
        refine Va 5 ?_
        refine A_w (m' := 63) rfl rfl rfl rfl rfl (by decide +kernel) ?_
        refine W_app1 (y := n) (by_ := 56) [_, _, _, _] _ hO rfl rfl rfl rfl rfl rfl (elm rfl) (zer rfl) rfl rfl rfl rfl ⟨_, _, rfl, fc13_2⟩ (by omega) (by omega) ?_
        rintro p2 c2 M2 hO2
        (focus (refine Va 6 ?_; refine Vf 127 ?_; refine Va 7 ?_; refine A_w0 (m' := 255) rfl rfl rfl rfl (by decide +kernel) (W_one rfl rfl rfl (ty rfl) u2 rfl rfl rfl ?_); refine A_done (by decide +kernel) ?_; refine block_n ?_))
        exact roundF_n (seen ++ [i], outs ++ [n], p2, c2, M2) (by simp only [List.length_append, List.length_singleton]; omega) ⟨le_trans hl3 l13_2, hC', hO2⟩ (by repeat' first | exact sR _ | exact sA _ _ | exact sN _ | apply s2 | apply s1) (by repeat' first | exact trivial | refine ⟨rfl, ?_⟩)
      · intro hall
        (focus (refine Tx ?_; refine On ?_; refine WP_seq ?_; refine cond_f rfl ?_; refine WP_exit ?_; refine then_e ?_; refine roundF_e ?_; refine block_e ?_; refine then_n ?_; refine Wr ?_; refine Tf ?_; refine Tl ?_; refine L_one (Rd.own m1) (ty rfl) ?_; refine S_w rfl rfl rfl (W_callF [_, _, _] _ (sortNd_s ‹_› (by omega)) rfl rfl ⟨_, _, rfl, ⟨_, _, rfl, rfl, rfl⟩, rfl⟩ (cal rfl) rfl ?_); rintro h15_1 m15_1 _ l15_1 ⟨e15_1, rfl, ys15_1, hp15_1, hs15_1, o15_1⟩; replace hO := hO.up l15_1; replace hmp := hmp.up l15_1; replace hN := hN.up l15_1; replace o15_1 := o15_1.up l15_1; refine On ?_; refine Wr ?_; refine Tl ?_; refine Lg m1 ?_; refine Tw u2 ?_; refine Tm ?_; refine On ?_; refine WP_ret ?_))
        have hys := Coll_end hN hC hall hp15_1 hs15_1
        have hyl := hp15_1.length_eq
        subst hys
        refine pretKM [_, _, _] m15_1 _ rfl (.inl rfl) rfl ⟨_, _, _, rfl, Loads_agg (Rd.own m2) (ty rfl) rfl, ⟨_, _, rfl, rfl, rfl⟩, rfl⟩ fun h' hl' hm => ?_
        rw [hun]
        exact ⟨_, rfl, _, _, by rw [hyl], o15_1.sl hl' (NodeC_mono _) hm (by omega)⟩
end Go.Proofs.YtfhoecgiahpddaaGreat
/-
  RANGES OVER FUNCTIONS, over a state; the end of a function that holds such a statement.
-/
set_option linter.all false
namespace Go.Mesh
open Go.RowKit
section
variable {P : Program} {r : Option Nat} {N : Nat} {h : Frag} {L : Hp} {D : List Nat} {fr : Fr}
theorem WP_dropQ {c : Code} {Q : Post} (x : WP P r N c h L D fr (fun e h' L' D' fr' => ∃ L2, List.Sublist L2 L' ∧ Q e h' L2 D' fr')) : WP P r N c h L D fr Q :=
  fun a w fa hw => wpIn_mono (x a w fa hw) fun _ _ _ ⟨h', _, D', fr', ⟨L2, hs, q⟩, f, e⟩ => ⟨h', L2, D', fr', q, f, e.drop hs⟩
theorem WP_perm {c : Code} {Q : Post} {L2 : Hp} (hp : L.Perm L2) (x : WP P r N c h L2 D fr Q) : WP P r N c h L D fr Q :=
  fun a w fa hw => wpIn_mono (x a w fa (hw.perm hp.symm)) fun _ _ _ ⟨h', L', D', fr', q, f, e⟩ => ⟨h', L', D', fr', q, f, e.of_perm hp⟩
/-- what a round over a state must come to -/
def bodyS {α σ : Type} (A B : Hp) (Mf : σ → Hp) (Inv : List α → Frag → σ → Prop) (Ix : Exit → Frag → Hp → Prop) (pre : List α) : Post := bodyQ (fun pre h L => ∃ s, List.Sublist (A ++ (Mf s ++ B)) L ∧ Inv pre h s) Ix pre
theorem bodyS_n {α σ : Type} {A B : Hp} {Mf : σ → Hp} {Inv : List α → Frag → σ → Prop} {Ix : Exit → Frag → Hp → Prop} {pre : List α} (s : σ) (hi : Inv pre h s) (hs : List.Sublist (A ++ (Mf s ++ B)) L) : bodyS A B Mf Inv Ix pre .normal h L D fr := ⟨s, hs, hi⟩
theorem bodyS_r {α σ : Type} {A B : Hp} {Mf : σ → Hp} {Inv : List α → Frag → σ → Prop} {Ix : Exit → Frag → Hp → Prop} {pre : List α} (x : Ix .ret h L) : bodyS A B Mf Inv Ix pre .ret h L D fr := x
theorem bodyS_e {α σ : Type} {A B : Hp} {Mf : σ → Hp} {Inv : List α → Frag → σ → Prop} {Ix : Exit → Frag → Hp → Prop} {pre : List α} {id : Nat} (x : Ix (.exit id) h L) : bodyS A B Mf Inv Ix pre (.exit id) h L D fr := x
theorem WP_rangeS {α σ : Type} {go : Operand} {ps : Array Tmp} {assign body : Code} {g : FuncId} {cap : Array Value} {fn : Func} {enc : Frag → α → Array Value → Prop} {items : List α} {Q : Post}
    (A B : Hp) (Mf : σ → Hp) (Inv : List α → Frag → σ → Prop) (Ix : Exit → Frag → Hp → Prop) (s0 : σ) (it : Iter P g cap h enc items)
    (hf : ev fr go = some (.func (.func g) #[] cap)) (hfn : P.funcs[g]? = some fn) (hn : fn.name ≠ "runtime.NumGoroutine") (hb : fn.body.isSome = true) (henc : ∀ h x vals, enc h x vals → vals.size = ps.size) (hps : parOk N ps.toList = true)
    (hL : L = A ++ (Mf s0 ++ B)) (h0 : Inv [] h s0)
    (round : ∀ l pre x vals h' s, le h h' → Inv pre h' s → (pre ++ [x]) <+: items → enc h' x vals → WP P (some l) N assign h' (A ++ (Mf s ++ B)) [] (parFr fr ps.toList vals.toList)
      (thenQ (fun h'' L'' D'' fr'' => D'' = [] ∧ WP P (some l) N body h'' L'' [] fr'' (bodyS A B Mf Inv Ix (pre ++ [x]))) (fun _ _ _ _ _ => False)))
    (done : ∀ d h' s, le h h' → Inv items h' s → Q .normal h' (A ++ (Mf s ++ (B ++ [dObj d]))) (d :: D) fr)
    (left : ∀ d e h' L', le h h' → Ix e h' L' → (jumpOf e).isSome = true → Q e h' (L' ++ [dObj d]) (d :: D) fr) : WP P none N (.rangeFunc go ps assign body) h L D fr Q := by
  refine WP_dropQ (WP_rangeFunc hf hfn hn hb it henc hps (fun pre h L => ∃ s, List.Sublist (A ++ (Mf s ++ B)) L ∧ Inv pre h s) Ix ⟨s0, by rw [hL]; exact List.Sublist.refl _, h0⟩ ?_ ?_ ?_)
  · rintro l pre x vals h' L' hl ⟨s, hs, hi⟩ hp he
    exact WP.drop hs (round l pre x vals h' s hl hi hp he)
  · rintro d h' L' hl ⟨s, hs, hi⟩
    refine ⟨_, ?_, done d h' s hl hi⟩
    have := hs.append (List.Sublist.refl [dObj d])
    simpa [dObj] using this
  · intro d e h' L' hl hx hj
    exact ⟨_, List.Sublist.refl _, left d e h' L' hl hx hj⟩
theorem Q_sliceTo {o : Oper} {t e k by_ : Nat} {s x : Operand} {b n cap : Nat} {q : IntKind} {i : Int} (u : Nat) (hop : o.op = .slice t s none (some x) none) (hs : ev fr s = some (.slice (some ⟨b, 0, none⟩) n cap)) (he : elemOf? P t = some (e, k, by_)) (hx : ev fr x = some (.int q i)) (hi : i = (u : Int)) (huc : u ≤ cap) (hc : 0 < cap) :
    QOP P o fr h L (.slice (some ⟨b, 0, none⟩) u cap) := by
  subst hi
  have := Q_slice (P := P) (h := h) (L := L) (l := 0) hop hs he rfl ⟨q, hx⟩ (Nat.zero_le _) huc hc
  simpa using this
/-- the end of a function that holds such statements -/
def retN (P : Program) (fn : Func) (R : OCont) : Post := fun e h' L' D' fr' => (e = .ret ∨ e = .normal) ∧ ∃ vs L2, List.Sublist (L2 ++ D'.map dObj) L' ∧ resVals P h' L2 fr' fn.results.toList vs ∧ ∀ w, Holds h' L2 w → ∃ h3 L3, Ext h' L2 w h3 L3 w ∧ R h3 L3 (resOf vs)
theorem spec_ofN {f : FuncId} {fn : Func} {c : Code} {vs : List Value} {args : Array Value} {R : OCont} (hf : P.funcs[f]? = some fn) (hn : fn.ntmps = N) (hb : fn.body = some c) (ha : args = vs.toArray) (hN : Nat.ble vs.length N = true)
    (x : WP P none N c h L [] (argFr vs 0) (retN P fn R)) : FSpec P f args h L R := by
  refine spec_ofM hf hn hb ha hN fun a w fa hw => wpIn_mono (x a w fa hw) ?_
  rintro e a' w' ⟨h', L', D', fr', ⟨he, us, L2, hs, hr, q⟩, f, y⟩
  exact ⟨h', _, D', fr', ⟨he, us, L2, rfl, hr, q⟩, f, y.drop hs⟩
theorem pspec_ofN {f : FuncId} {fn : Func} {c : Code} {vs : List Value} {R : Frag → Value → Prop} (hf : P.funcs[f]? = some fn) (hn : fn.ntmps = N) (hb : fn.body = some c) (hN : Nat.ble vs.length N = true)
    (x : WP P none N c h [] [] (argFr vs 0) (retN P fn (fun h' L' v => L' = [] ∧ R h' v))) : PSpec P f vs.toArray h R := spec_ofN hf hn hb rfl hN x
theorem nret {fn : Func} {R : OCont} {e : Exit} {rs : List ResultVar} {vs : List Value} (L2 : Hp) (hs : List.Sublist (L2 ++ D.map dObj) L) (he : e = .ret ∨ e = .normal) (hrs : fn.results.toList = rs) (hr : resVals P h L2 fr rs vs) (x : R h L2 (resOf vs)) : retN P fn R e h L D fr :=
  ⟨he, vs, L2, hs, by rw [hrs]; exact hr, fun _ hw => ⟨h, L2, Ext.refl hw, x⟩⟩
theorem nretP {fn : Func} {R : Frag → Value → Prop} {e : Exit} {rs : List ResultVar} {vs : List Value} (L2 : Hp) (hs : List.Sublist (L2 ++ D.map dObj) L) (he : e = .ret ∨ e = .normal) (hrs : fn.results.toList = rs) (hr : resVals P h L2 fr rs vs) (x : R h (resOf vs)) : retN P fn (fun h' L' v => L' = [] ∧ R h' v) e h L D fr :=
  ⟨he, vs, L2, hs, by rw [hrs]; exact hr, fun _ hw => ⟨h, [], (Ext.refl hw).drop (List.nil_sublist _), rfl, x⟩⟩
theorem nretK {fn : Func} {R : Frag → Value → Prop} {e : Exit} {rs : List ResultVar} {vs : List Value} (A M B : Hp) (hs : List.Sublist ((A ++ (M ++ B)) ++ D.map dObj) L) (he : e = .ret ∨ e = .normal) (hrs : fn.results.toList = rs) (hr : resVals P h (A ++ (M ++ B)) fr rs vs) (x : ∀ h', le h h' → (∀ p, p ∈ M → h' p.1 = some p.2) → R h' (resOf vs)) : retN P fn (fun h' L' v => L' = [] ∧ R h' v) e h L D fr :=
  ⟨he, vs, _, hs, by rw [hrs]; exact hr, fun w hw => by
    obtain ⟨h', e, hm⟩ := keepAt hw
    exact ⟨h', [], e.drop (List.nil_sublist _), rfl, x h' e.le hm⟩⟩
theorem Iter.up {α : Type} {g : FuncId} {cap : Array Value} {h' : Frag} {enc : Frag → α → Array Value → Prop} {items : List α} (x : Iter P g cap h enc items) (hl : le h h') : Iter P g cap h' enc items := fun l J Jx h0 L0 hl0 => x l J Jx h0 L0 (le_trans hl hl0)
end
attribute [local irreducible] retN bodyS
end Go.Mesh
/-
  PLAIN: what a graph reaches.
-/
set_option linter.all false
namespace Go.Proofs.YtfhoecgiahpddaaGreat
open Go.Mesh Go.RowKit
set_option maxRecDepth 100000
set_option linter.unusedVariables false
set_option maxHeartbeats 4000000
attribute [local irreducible] WP OPS ANY ANYo LG LV FSpec PSpec QOP OPc OPw thenQ blockQ roundQ roundF retQ retM Rd At SLB OS cmpI orI cmpID namedB valB nodeB kindB validG valAux idxI findG zeroV viewOf vwAt idxOf recv flyB scionOf moveOf numberedOf idOf valueOf mget mput localB carriedB stubOf followF followOf flOf flightsOf flPre setL minusL compactL putI mergeN insN insAll unionR NMap Coll retN bodyS
/-- the references of fields -/
def refsV (fs : List Val) : List ID := (fs.filter fun x => decide (x.1 = 2)).map fun x => x.2.2
/-- the references that are followed -/
def refsOf (n : Nd) : List ID := if n.kind = 2 then [] else refsV n.fields
theorem refsOf_weak {n : Nd} (h : n.kind = 2) : refsOf n = [] := by rw [refsOf, if_pos h]
theorem refsOf_plain {n : Nd} (h : ¬ n.kind = 2) : refsOf n = refsV n.fields := by rw [refsOf, if_neg h]
theorem refsV_nil : refsV [] = [] := rfl
theorem refsV_length (fs : List Val) : (refsV fs).length ≤ fs.length := by simp only [refsV, List.length_map]; exact List.length_filter_le _ _
theorem refsV_take {fs : List Val} {k : Nat} {x : Val} (hx : fs[k]? = some x) : refsV (fs.take (k + 1)) = refsV (fs.take k) ++ (if x.1 = 2 then [x.2.2] else []) := by
  simp only [refsV, List.take_add_one, hx, List.filter_append, List.map_append]
  by_cases h : x.1 = 2 <;> simp [h]
inductive Reach (g : List Nd) (roots : List ID) : ID → Prop
  | root {id : ID} {n : Nd} (h1 : id ∈ roots) (h2 : findG g id = some n) : Reach g roots id
  | step {m id : ID} {n k : Nd} (h1 : Reach g roots m) (h2 : findG g m = some n) (h3 : id ∈ refsOf n) (h4 : findG g id = some k) : Reach g roots id
theorem Reach.has {g : List Nd} {roots : List ID} {id : ID} (h : Reach g roots id) : ∃ n, findG g id = some n := by
  cases h with
  | root _ h2 => exact ⟨_, h2⟩
  | step _ _ _ h4 => exact ⟨_, h4⟩
open Classical in
/-- what is reached, in order -/
noncomputable def reachL (g : List Nd) (roots : List ID) : List ID := setL ((g.map (·.id)).filter fun x => decide (Reach g roots x))
theorem SI_reachL (g : List Nd) (roots : List ID) : SI (reachL g roots) := SI_setL _
theorem mem_reachL {g : List Nd} {roots : List ID} {x : ID} : x ∈ reachL g roots ↔ Reach g roots x := by
  rw [reachL, mem_setL, List.mem_filter]
  constructor
  · rintro ⟨_, h⟩; simpa using h
  · intro h
    obtain ⟨n, hn⟩ := h.has
    obtain ⟨h1, h2⟩ := findG_some hn
    exact ⟨List.mem_map.2 ⟨n, h1, h2⟩, by simpa using h⟩
theorem reachL_length (g : List Nd) (roots : List ID) : (reachL g roots).length ≤ g.length := by
  refine Nat.le_trans (setL_length _) (Nat.le_trans (List.length_filter_le _ _) ?_)
  simp
/-- what the search keeps true -/
def Dfs (g : List Nd) (roots w out : List ID) : Prop := out.Nodup ∧ (∀ x, x ∈ out → Reach g roots x) ∧ (∀ x, x ∈ w → ∀ n, findG g x = some n → Reach g roots x) ∧ (∀ x, x ∈ roots → x ∈ out ∨ x ∈ w ∨ findG g x = none) ∧
  ∀ m, m ∈ out → ∀ n, findG g m = some n → ∀ x, x ∈ refsOf n → x ∈ out ∨ x ∈ w ∨ findG g x = none
theorem Dfs_start (g : List Nd) (roots : List ID) : Dfs g roots roots [] :=
  ⟨List.nodup_nil, by simp, fun x hx n hn => .root hx hn, fun x hx => .inr (.inl hx), by simp⟩
theorem Dfs_skip {g : List Nd} {roots w w' out : List ID} {x : ID} (d : Dfs g roots w out) (hw : ∀ y, y ∈ w ↔ y = x ∨ y ∈ w') (hx : findG g x = none ∨ x ∈ out) : Dfs g roots w' out := by
  obtain ⟨d1, d2, d3, d4, d5⟩ := d
  refine ⟨d1, d2, fun y hy => d3 y ((hw y).2 (.inr hy)), fun y hy => ?_, fun m hm n hn y hy => ?_⟩
  · rcases d4 y hy with h | h | h
    · exact .inl h
    · rcases (hw y).1 h with rfl | h
      · rcases hx with h | h
        · exact .inr (.inr h)
        · exact .inl h
      · exact .inr (.inl h)
    · exact .inr (.inr h)
  · rcases d5 m hm n hn y hy with h | h | h
    · exact .inl h
    · rcases (hw y).1 h with rfl | h
      · rcases hx with h | h
        · exact .inr (.inr h)
        · exact .inl h
      · exact .inr (.inl h)
    · exact .inr (.inr h)
theorem Dfs_new {g : List Nd} {roots w w' out out' : List ID} {x : ID} {n : Nd} (d : Dfs g roots w out) (hw : ∀ y, y ∈ w → y = x ∨ y ∈ w') (hw' : ∀ y, y ∈ w' → y ∈ w ∨ y ∈ refsOf n) (hwn : ∀ y, y ∈ refsOf n → y ∈ w') (hxw : x ∈ w) (hn : findG g x = some n) (ho : ∀ y, y ∈ out' ↔ y = x ∨ y ∈ out) (hnd : out'.Nodup) : Dfs g roots w' out' := by
  obtain ⟨d1, d2, d3, d4, d5⟩ := d
  have hrx : Reach g roots x := d3 x hxw n hn
  refine ⟨hnd, fun y hy => ?_, fun y hy k hk => ?_, fun y hy => ?_, fun m hm k hk y hy => ?_⟩
  · rcases (ho y).1 hy with rfl | h
    · exact hrx
    · exact d2 y h
  · rcases hw' y hy with h | h
    · exact d3 y h k hk
    · exact .step hrx hn h hk
  · rcases d4 y hy with h | h | h
    · exact .inl ((ho y).2 (.inr h))
    · rcases hw y h with rfl | h
      · exact .inl ((ho _).2 (.inl rfl))
      · exact .inr (.inl h)
    · exact .inr (.inr h)
  · rcases (ho m).1 hm with rfl | hm
    · rw [hn] at hk; cases hk
      exact .inr (.inl (hwn y hy))
    · rcases d5 m hm k hk y hy with h | h | h
      · exact .inl ((ho y).2 (.inr h))
      · rcases hw y h with rfl | h
        · exact .inl ((ho _).2 (.inl rfl))
        · exact .inr (.inl h)
      · exact .inr (.inr h)
theorem Dfs_end {g : List Nd} {roots w out : List ID} (d : Dfs g roots w out) (hw : w = []) (x : ID) : x ∈ out ↔ Reach g roots x := by
  subst hw
  obtain ⟨d1, d2, d3, d4, d5⟩ := d
  refine ⟨d2 x, fun h => ?_⟩
  induction h with
  | root h1 h2 =>
    rcases d4 _ h1 with h | h | h
    · exact h
    · simp at h
    · rw [h2] at h; cases h
  | step h1 h2 h3 h4 ih =>
    rcases d5 _ ih _ h2 _ h3 with h | h | h
    · exact h
    · simp at h
    · rw [h4] at h; cases h
theorem nodup_subI : ∀ (l r : List ID), l.Nodup → (∀ x, x ∈ l → x ∈ r) → l.length ≤ r.length
  | [], _, _, _ => by simp
  | x :: l, r, hn, hs => by
    rw [List.nodup_cons] at hn
    have hx := hs x (by simp)
    have := nodup_subI l (r.erase x) hn.2 (fun y hy => (List.mem_erase_of_ne (fun e : y = x => hn.1 (by rw [← e]; exact hy))).2 (hs y (by simp [hy])))
    have hl := List.length_erase_of_mem hx
    have : 0 < r.length := List.length_pos_of_mem hx
    simp; omega
theorem Dfs_len {g : List Nd} {roots w out : List ID} (d : Dfs g roots w out) : out.length ≤ g.length := by
  have := nodup_subI out (g.map (·.id)) d.1 (fun x hx => by
    obtain ⟨n, hn⟩ := (d.2.1 x hx).has
    obtain ⟨h1, h2⟩ := findG_some hn
    exact List.mem_map.2 ⟨n, h1, h2⟩)
  simpa using this
theorem Dfs_nodup {g : List Nd} {roots w out : List ID} (d : Dfs g roots w out) : out.Nodup := d.1
theorem nodup_snoc {out : List ID} {x : ID} (h : out.Nodup) (hx : x ∉ out) : (out ++ [x]).Nodup := by
  rw [List.nodup_append]; exact ⟨h, by simp, fun a ha b hb e => by simp at hb; subst hb; subst e; exact hx ha⟩
theorem Dfs_push {g : List Nd} {roots w out : List ID} {x : ID} {n : Nd} (d : Dfs g roots (w ++ [x]) out) (hn : findG g x = some n) (hx : x ∉ out) : Dfs g roots (w ++ refsOf n) (out ++ [x]) := by
  refine Dfs_new (x := x) (n := n) d (fun y hy => ?_) (fun y hy => ?_) (fun y hy => List.mem_append_right _ hy) (by simp) hn (by simp [or_comm]) (nodup_snoc d.1 hx)
  · rcases List.mem_append.1 hy with h | h
    · exact .inr (List.mem_append_left _ h)
    · exact .inl (by simpa using h)
  · rcases List.mem_append.1 hy with h | h
    · exact .inl (List.mem_append_left _ h)
    · exact .inr h
/-- sorted, what was found is what is reached -/
theorem reach_end {g : List Nd} {roots w out ys : List ID} (d : Dfs g roots w out) (hw : w = []) (hp : ys.Perm out) (hs : ys.Pairwise fun x y => ¬ cmpID y x < 0) : ys = reachL g roots := by
  have hnd : ys.Pairwise (· ≠ ·) := List.nodup_iff_pairwise_ne.1 (hp.nodup_iff.2 d.1)
  have hsi : SI ys := (hs.and hnd).imp fun ⟨a, b⟩ => Decidable.byContradiction fun hc => b (cmp_eq.1 ⟨hc, a⟩)
  refine SI_unique hsi (SI_reachL g roots) fun x => ?_
  rw [hp.mem_iff, Dfs_end d hw, mem_reachL]
/-- a map that stands for a list of nodes -/
def GMap (h : Frag) (ps : List (ID × Value)) (ns : List Nd) : Prop := ∀ id, match mget id ps with
  | none => findG ns id = none
  | some v => ∃ p c n, v = ndv n p c ∧ SLB 4398046511104 h 4 ValC (.slice p n.fields.length c) n.fields ∧ findG ns id = some n
theorem GMap_nil (h : Frag) : GMap h [] [] := fun id => by simp only [mget]; unfold findG; rfl
theorem GMap_cons {h : Frag} {ps : List (ID × Value)} {ns : List Nd} {n : Nd} {p : Option Addr} {c : Nat} (x : GMap h ps ns) (hf : SLB 4398046511104 h 4 ValC (.slice p n.fields.length c) n.fields) : GMap h (mput n.id (ndv n p c) ps) (n :: ns) := by
  intro id
  rw [mget_mput, findG_cons]
  by_cases hid : n.id = id
  · rw [if_pos hid, if_pos hid]; exact ⟨p, c, n, rfl, hf, rfl⟩
  · rw [if_neg hid, if_neg hid]; exact x id
theorem GMap_some {h : Frag} {ps : List (ID × Value)} {ns : List Nd} {id : ID} {v : Value} (x : GMap h ps ns) (hq : mget id ps = some v) : ∃ p c n, v = ndv n p c ∧ SLB 4398046511104 h 4 ValC (.slice p n.fields.length c) n.fields ∧ findG ns id = some n := by
  have := x id
  rw [hq] at this
  exact this
theorem GMap_none {h : Frag} {ps : List (ID × Value)} {ns : List Nd} {id : ID} (x : GMap h ps ns) (hq : mget id ps = none) : findG ns id = none := by
  have := x id
  rw [hq] at this
  exact this
theorem GMap.up {h h' : Frag} {ps : List (ID × Value)} {ns : List Nd} (x : GMap h ps ns) (hl : le h h') : GMap h' ps ns := by
  intro id
  have := x id
  cases hq : mget id ps with
  | none => rw [hq] at this; exact this
  | some v =>
    rw [hq] at this
    obtain ⟨p, c, n, e1, e2, e3⟩ := this
    exact ⟨p, c, n, e1, e2.up hl, e3⟩
attribute [local irreducible] GMap Dfs refsV refsOf reachL
theorem OS.cut {h : Frag} {b cap : Nat} {w : List ID} {x : ID} {rest : List Value} (hc : (w ++ [x]).length ≤ cap) (hl : (flatI (w ++ [x])).length + rest.length = cap * 2) : OS h 35 2 IDC (.slice (some ⟨b, 0, none⟩) w.length cap) w [(b, cells (flatI (w ++ [x]) ++ rest) 35)] := by
  have h1 : flatI (w ++ [x]) ++ rest = flatI w ++ (flatI [x] ++ rest) := by rw [flatI_append, List.append_assoc]
  rw [h1]
  refine Go.Mesh.OS.make rfl (by simp at hc; omega) ?_
  rw [flatI_append] at hl
  simp only [List.length_append] at hl ⊢
  omega
end Go.Proofs.YtfhoecgiahpddaaGreat
/-
  CONTRACTS: shape.Reachable.
-/
set_option linter.all false
namespace Go.Proofs.YtfhoecgiahpddaaGreat
open Go.Mesh Go.RowKit
set_option maxRecDepth 100000
set_option linter.unusedVariables false
set_option maxHeartbeats 4000000
attribute [local irreducible] WP OPS ANY ANYo LG LV FSpec PSpec QOP OPc OPw thenQ blockQ roundQ roundF retQ retM Rd At SLB OS cmpI orI cmpID namedB valB nodeB kindB validG valAux idxI findG zeroV viewOf vwAt idxOf recv flyB scionOf moveOf numberedOf idOf valueOf mget mput localB carriedB stubOf followF followOf flOf flightsOf flPre setL minusL compactL putI mergeN insN insAll unionR NMap Coll retN bodyS GMap Dfs refsV refsOf reachL
theorem reach_s {h : Frag} {v : Value} {g : List Nd} {us : List Value} {roots : List ID} (hg : GraphC 4398046511104 h g us) (hr : SL h 2 IDC v roots) (hgl : g.length ≤ 1000000) (hrl : roots.length ≤ 1000000) (hfl : ∀ n, n ∈ g → n.fields.length ≤ 1000) : FSpec Tryz.prog 37 #[.agg us.toArray, v] h []
    (fun h' L' w => ∃ p c, w = .slice p (reachL g roots).length c ∧ OS h' 35 2 IDC (.slice p (reachL g roots).length c) (reachL g roots) L') := by
  obtain ⟨pg, cg, rfl, fg⟩ := hg
  obtain ⟨pr, cr, rfl⟩ := hr.slice
  refine spec_ofN (vs := [.agg [.slice pg g.length cg].toArray, .slice pr roots.length cr]) Tryz.func37 Tryz.ntmps37 rfl rfl rfl ?_
  (focus (refine Wr ?_; refine Tbx ?_; intro b0_1; refine Tm ?_; refine On ?_; refine Wr ?_; refine S_c rfl rfl rfl (C_makeMapK idk rfl rfl ?_); intro b0_2; refine Tal ?_; intro b0_3; refine S_w0 rfl rfl (W_one rfl rfl rfl (ty rfl) u0 rfl rfl rfl ?_); refine On ?_; refine WP_seq ?_; refine Wr ?_; refine Tf ?_; refine Tl ?_; refine L_one (Rd.own m2) (ty rfl) ?_; refine S_c rfl rfl rfl (C_call (backward_s ‹_›) rfl rfl ⟨_, _, rfl, rfl, rfl⟩ (cal rfl) ?_); rintro h0_4 _ l0_4 ⟨bi0_4, rfl, it0_4⟩; replace fg := fg.up l0_4; replace hr := hr.up l0_4; refine On ?_; refine WP_block ?_))
  refine WP_rangeS [_] [_] (fun ps : List (ID × Value) => [(b0_2, mapObj idv ps)]) (fun pre hh ps => le h0_4 hh ∧ GMap hh ps pre.reverse) (fun _ _ _ => False) [] it0_4 rfl Tryz.func120 (by decide) rfl (by rintro _ _ _ ⟨_, _, rfl, _⟩; rfl) rfl rfl ⟨le_refl _, GMap_nil _⟩ ?_ ?_ ?_
  · rintro l pre ⟨⟨i1, i2⟩, kd, cl, fs⟩ _ h1 ps hl1 ⟨hl2, hG⟩ hp ⟨i, us, rfl, hu1, hu2, pn, cn, rfl, hfs⟩
    dsimp only at hfs
    dsimp only [parFr]
    (focus (refine R_region ?_; refine Tal ?_; intro b1_1; refine Tw u0 ?_; refine On ?_))
    refine ⟨rfl, ?_⟩
    (focus (refine WP_block ?_; refine R_region ?_; refine Tl ?_; refine L_one (Rd.own m1) (ty rfl) ?_; refine Tf ?_; refine Tl ?_; refine L_sub (Rd.own m0) (ty rfl) rfl ?_; refine Tl ?_; refine Lg m0 ?_; refine S_w0 rfl rfl (W_mapUpdate rfl rfl (key_id rfl) rfl idk rfl u2 ?_); refine OPS_nil ?_; refine block_n ?_))
    refine bodyS_n (mput (i1, i2) (ndv ⟨(i1, i2), kd, cl, fs⟩ pn cn) ps) ?_ (by repeat' first | exact sR _ | exact sA _ _ | exact sN _ | apply s2 | apply s1)
    refine ⟨hl2, ?_⟩
    rw [List.reverse_append]
    exact GMap_cons (n := ⟨(i1, i2), kd, cl, fs⟩) hG hfs
  · rintro d h1 ps hl1 ⟨hl2, hG⟩
    rw [List.reverse_reverse] at hG
    (replace it0_4 := it0_4.up hl1; replace fg := fg.up hl1; replace hr := hr.up hl1)
    (focus (refine block_n ?_; refine then_n ?_; refine Wr ?_; refine S_c rfl rfl rfl (C_makeMapK idk rfl rfl ?_); intro b4_1; refine Tm ?_; refine On ?_; refine Wr ?_; refine Tm ?_; refine On ?_; refine WP_seq ?_; refine Wr ?_; refine Tm ?_; refine S_w rfl rfl rfl (W_callF [] _ (cloneID_s ‹_›) rfl rfl ⟨_, _, rfl, rfl, rfl⟩ (cal rfl) rfl ?_); rintro h4_2 m4_2 _ l4_2 ⟨p4_2, q4_2, rfl, o4_2⟩; replace hG := hG.up l4_2; replace it0_4 := it0_4.up l4_2; replace fg := fg.up l4_2; replace hr := hr.up l4_2; refine Tm ?_; refine On ?_; refine WP_block ?_))
    refine WP_keepM (m4_2 ++ [(b4_1, mapObj idv [])]) [(b0_3, cells [.map (some b0_2)] 143), (b0_2, mapObj idv ps), (b0_1, cells [.slice pg g.length cg] 27)] [dObj d] (by simp) fun h4 hl4 hm4 => ?_
    have hbx : At h4 b0_3 0 [.map (some b0_2)] := at_of_keep (b := b0_3) (l := [.map (some b0_2)]) (t := 143) (fun p hp => hm4 p (by simp at hp; simp [hp]))
    have hmp : IsMapP idv h4 b0_2 ps := hm4 (b0_2, mapObj idv ps) (by simp)
    clear hm4
    (replace o4_2 := o4_2.up hl4; replace hG := hG.up hl4; replace it0_4 := it0_4.up hl4; replace fg := fg.up hl4; replace hr := hr.up hl4)
    refine WP_perm (L2 := (b4_1, mapObj idv []) :: (m4_2 ++ ([] ++ [dObj d]))) (by simp) ?_
    (refine WP_loopF (α := List ID × List ID × List (ID × Value) × (Option Addr × Nat × Hp) × (Option Addr × Nat × Hp)) [8, 5] (fun (s : List ID × List ID × List (ID × Value) × (Option Addr × Nat × Hp) × (Option Addr × Nat × Hp)) => (g.length - s.2.1.length) * 1001 + s.1.length) (fun (s : List ID × List ID × List (ID × Value) × (Option Addr × Nat × Hp) × (Option Addr × Nat × Hp)) => (b4_1, mapObj idv s.2.2.1) :: (s.2.2.2.1.2.2 ++ (s.2.2.2.2.2.2 ++ [dObj d]))) (fun (s : List ID × List ID × List (ID × Value) × (Option Addr × Nat × Hp) × (Option Addr × Nat × Hp)) => [(10, .slice s.2.2.2.1.1 s.1.length s.2.2.2.1.2.1), (9, .slice s.2.2.2.2.1 s.2.1.length s.2.2.2.2.2.1)]) (fun hh (s : List ID × List ID × List (ID × Value) × (Option Addr × Nat × Hp) × (Option Addr × Nat × Hp)) => hh = h4 ∧ Dfs g roots s.1 s.2.1 ∧ (∀ x, mget x s.2.2.1 = if x ∈ s.2.1 then some (.bool true) else none) ∧ s.1.length ≤ roots.length + 1000 * s.2.1.length ∧ OS h4 35 2 IDC (.slice s.2.2.2.1.1 s.1.length s.2.2.2.1.2.1) s.1 s.2.2.2.1.2.2 ∧ OS h4 35 2 IDC (.slice s.2.2.2.2.1 s.2.1.length s.2.2.2.2.2.1) s.2.1 s.2.2.2.2.2.2) (roots, [], [], (p4_2, q4_2, m4_2), (none, 0, [])) ⟨_, _, rfl, ⟨_, _, rfl, rfl, rfl⟩, rfl⟩ ?_ (by repeat' first | exact sR _ | exact sA _ _ | exact sN _ | apply s2 | apply s1) (by repeat' first | exact trivial | refine ⟨rfl, ?_⟩) ?_)
    · exact ⟨rfl, Dfs_start _ _, fun x => by simp [mget], by simp, o4_2, OS.nil _ _ _ _⟩
    rintro h5 ⟨w, out, sm, ⟨pw, cw, Mw⟩, ⟨po, co, Mo⟩⟩ _ ⟨rfl, hD, hsm, hwl, hW, hO⟩
    simp only at hD hsm hwl hW hO
    dsimp only
    have hol := Dfs_len hD
    clear o4_2
    rcases List.eq_nil_or_concat w with rfl | ⟨w', ⟨x1, x2⟩, rfl⟩
    · (focus (refine WP_seq ?_; refine Wr ?_; refine Tm ?_; refine Tlen ?_; refine Tc ?_; refine On ?_; refine cond_f rfl ?_; refine WP_exit ?_; refine then_e ?_; refine roundF_e ?_; refine block_e ?_; refine then_n ?_; refine Wr ?_; refine Tm ?_; refine S_w rfl rfl rfl (W_callF (_ :: _) _ (sortID_s ‹_› (by omega) (cal rfl) (fun _ _ => order_s _ _ _)) rfl rfl ⟨_, _, rfl, ⟨_, _, rfl, rfl, rfl⟩, rfl⟩ (cal rfl) rfl ?_); rintro h7_1 m7_1 _ l7_1 ⟨e7_1, rfl, ys7_1, hp7_1, hn7_1, hs7_1, o7_1⟩; replace hbx := hbx.up l7_1; replace hmp := hmp.up l7_1; replace hG := hG.up l7_1; replace it0_4 := it0_4.up l7_1; replace fg := fg.up l7_1; replace hr := hr.up l7_1; replace hO := hO.up l7_1; replace hW := hW.up l7_1; replace o7_1 := o7_1.up l7_1; refine On ?_; refine Wr ?_; refine Tm ?_; refine Tm ?_; refine On ?_; refine WP_ret ?_))
      have hys := reach_end hD rfl hp7_1 hs7_1
      subst hys
      rw [← hn7_1] at o7_1
      rw [← hn7_1]
      exact nret m7_1 (List.sublist_append_right (_ :: Mw) _) (.inl rfl) rfl ⟨_, _, rfl, rfl, rfl⟩ ⟨_, _, rfl, o7_1⟩
    · rw [List.concat_eq_append] at *
      obtain ⟨b, cap, rest, e, rfl, hcap, hrest⟩ := hW.parts (by simp)
      cases e
      have hcut := OS.cut (h := h5) (b := b) hcap hrest
      have hx : (w' ++ [(x1, x2)])[w'.length]? = some (x1, x2) := by simp
      have hwl' : (w' ++ [(x1, x2)]).length = w'.length + 1 := by simp
      (focus (refine WP_seq ?_; refine Wr ?_; refine Tm ?_; refine Tlen ?_; refine Tc ?_; refine On ?_; refine Wc ?_ ?_ <;> intro c8_1 <;> (first | simp [*] at c8_1; done | try simp at c8_1); refine WP_skip ?_; refine then_n ?_; refine WP_block ?_; refine Wr ?_; refine Tm ?_; refine Tm ?_; refine Tlen ?_; refine S_q rfl rfl rfl (Q_sub rfl rfl rfl (by omega)) ?_; refine S_q rfl rfl rfl (Q_indexX hx rfl rfl rfl (elm rfl) (by omega) (by omega)) ?_; refine Tl ?_; refine L_id0 m1 ‹_› (ty rfl) ?_; refine Tal ?_; intro b8_2; refine Tw u0 ?_; refine On ?_; refine Wr ?_; refine Tm ?_; refine Tm ?_; refine Tlen ?_; refine S_q rfl rfl rfl (Q_sub rfl rfl rfl (by omega)) ?_))
      refine S_q rfl rfl rfl (Q_sliceTo w'.length rfl rfl (elm rfl) rfl (by omega) (by omega) (by omega)) ?_
      cases hq : mget (x1, x2) ps with
      | none =>
        (focus (refine Tm ?_; refine On ?_; refine Wr ?_; refine Tl ?_; refine L_one (Rd.pers ‹_›) (ty rfl) ?_; refine Tl ?_; refine Lg m0 ?_; refine S_q rfl rfl rfl (Q_lookupOkN rfl rfl (key_id rfl) idk rfl rfl (.inl ‹_›) ‹_›) ?_; refine Tm ?_; refine Tx ?_; refine Tx ?_; refine Tal ?_; intro b9_1; refine Tw u0 ?_; refine Tm ?_; refine On ?_; refine WP_seq ?_; refine Wr ?_; refine Tm ?_; refine S_q rfl rfl rfl (Q_not rfl rfl) ?_; refine Tm ?_; refine Ugs ?_ ?_ <;> intro c9_2 <;> (first | simp [*] at c9_2; done | try simp at c9_2); refine Tn ?_; refine Tn ?_; refine Tn ?_; refine Tp1 ?_; refine On ?_; refine cond_t rfl ?_; refine WP_exit ?_; refine then_e ?_; refine block_e ?_))
        exact roundF_n (w', out, sm, (some ⟨b, 0, none⟩, cw, [(b, cells (flatI (w' ++ [(x1, x2)]) ++ rest) 35)]), (po, co, Mo)) (by simp only; omega) ⟨rfl, Dfs_skip (x := (x1, x2)) hD (by simp [or_comm]) (.inl (GMap_none hG hq)), hsm, by simp only; omega, hcut, hO⟩ (by repeat' first | exact sR _ | exact sA _ _ | exact sN _ | apply s2 | apply s1) (by repeat' first | exact trivial | refine ⟨rfl, ?_⟩)
      | some v =>
        obtain ⟨pv, cv, n, rfl, fo, ho⟩ := GMap_some hG hq
        by_cases hso : (x1, x2) ∈ out
        · have hq2 : mget (x1, x2) sm = some (.bool true) := by rw [hsm, if_pos hso]
          (focus (refine Tm ?_; refine On ?_; refine Wr ?_; refine Tl ?_; refine L_one (Rd.pers ‹_›) (ty rfl) ?_; refine Tl ?_; refine Lg m0 ?_; refine S_q rfl rfl rfl (Q_lookupOkS rfl rfl (key_id rfl) idk rfl rfl (.inl ‹_›) ‹_›) ?_; refine Tm ?_; refine Tx ?_; refine Tx ?_; refine Tal ?_; intro b10_1; refine Tw u0 ?_; refine Tm ?_; refine On ?_; refine WP_seq ?_; refine Wr ?_; refine Tm ?_; refine S_q rfl rfl rfl (Q_not rfl rfl) ?_; refine Tm ?_; refine Ugs ?_ ?_ <;> intro c10_2 <;> (first | simp [*] at c10_2; done | try simp at c10_2); refine Ugm ?_; refine Ugl ?_; refine Lg m1 ?_; refine S_gq rfl rfl rfl rfl rfl rfl (Q_lookupS rfl rfl (key_id rfl) idk rfl rfl (.inr m2) ‹_›) ?_; refine Tp0 ?_; refine On ?_; refine cond_t rfl ?_; refine WP_exit ?_; refine then_e ?_; refine block_e ?_))
          exact roundF_n (w', out, sm, (some ⟨b, 0, none⟩, cw, [(b, cells (flatI (w' ++ [(x1, x2)]) ++ rest) 35)]), (po, co, Mo)) (by simp only; omega) ⟨rfl, Dfs_skip (x := (x1, x2)) hD (by simp [or_comm]) (.inr hso), hsm, by simp only; omega, hcut, hO⟩ (by repeat' first | exact sR _ | exact sA _ _ | exact sN _ | apply s2 | apply s1) (by repeat' first | exact trivial | refine ⟨rfl, ?_⟩)
        · have hq2 : mget (x1, x2) sm = none := by rw [hsm, if_neg hso]
          have hsm' : ∀ y, mget y (mput (x1, x2) (.bool true) sm) = if y ∈ out ++ [(x1, x2)] then some (.bool true) else none := by
            intro y
            rw [mget_mput, hsm]
            by_cases hy : (x1, x2) = y
            · subst hy; simp
            · rw [if_neg hy]; simp [Ne.symm hy]
          have hnf := hfl n (findG_some ho).1
          have hnd := nodup_snoc (Dfs_nodup hD) hso
          have hol2 : (out ++ [(x1, x2)]).length = out.length + 1 := by simp
          (focus (refine Tm ?_; refine On ?_; refine Wr ?_; refine Tl ?_; refine L_one (Rd.pers ‹_›) (ty rfl) ?_; refine Tl ?_; refine Lg m0 ?_; refine S_q rfl rfl rfl (Q_lookupOkS rfl rfl (key_id rfl) idk rfl rfl (.inl ‹_›) ‹_›) ?_; refine Tm ?_; refine Tx ?_; refine Tx ?_; refine Tal ?_; intro b11_1; refine Tw u0 ?_; refine Tm ?_; refine On ?_; refine WP_seq ?_; refine Wr ?_; refine Tm ?_; refine S_q rfl rfl rfl (Q_not rfl rfl) ?_; refine Tm ?_; refine Ugs ?_ ?_ <;> intro c11_2 <;> (first | simp [*] at c11_2; done | try simp at c11_2); refine Ugm ?_; refine Ugl ?_; refine Lg m1 ?_; refine S_gq rfl rfl rfl rfl rfl rfl (Q_lookupN rfl rfl (key_id rfl) idk rfl rfl (.inr m2) ‹_›) ?_; refine Tp0 ?_; refine On ?_; refine cond_f rfl ?_; refine WP_skip ?_; refine then_n ?_; refine Wr ?_; refine Tm ?_; refine Tl ?_; refine Lg m1 ?_; refine S_w0 rfl rfl (W_mapUpdate rfl rfl (key_id rfl) rfl idk rfl u2 ?_); refine On ?_; refine Wr ?_; refine Tm ?_; refine Tl ?_; refine Lg m1 ?_; refine S_c rfl rfl rfl (C_buildSlice rfl (elm rfl) (zer rfl) rfl ⟨_, _, _, rfl, rfl, rfl, rfl, rfl, rfl⟩ rfl rfl ?_); intro b11_3; refine S_w rfl rfl rfl (W_app1 [_, _, _, _] _ ‹_› rfl rfl rfl rfl rfl rfl (elm rfl) (zer rfl) rfl rfl rfl rfl rfl (by (try simp only [lA]); omega) (by (try simp only [lA]); omega) ?_); rintro p11_4 q11_4 m11_4 o11_4; refine Tm ?_; refine On ?_; refine WP_seq ?_; refine Wr ?_; refine Tf ?_; refine Tl ?_; refine Lo m0 ?_; refine Tc ?_; refine On ?_; refine Wc ?_ ?_ <;> intro c11_5 <;> (first | simp [*] at c11_5; done | try simp at c11_5); (focus (refine WP_exit ?_; refine then_e ?_; refine block_e ?_)); rotate_left 1; (focus (refine WP_skip ?_; refine then_n ?_; refine Wr ?_; refine Tf ?_; refine Tl ?_; refine Lo m0 ?_; refine Tlen ?_; refine Tm ?_; refine On ?_; refine WP_block ?_)); rotate_left 1))
          · have hD' : Dfs g roots w' (out ++ [(x1, x2)]) := by have := Dfs_push hD ho hso; rw [refsOf_weak c11_5, List.append_nil] at this; exact this
            have := Dfs_len hD'
            exact roundF_n (w', out ++ [(x1, x2)], mput (x1, x2) (.bool true) sm, (some ⟨b, 0, none⟩, cw, [(b, cells (flatI (w' ++ [(x1, x2)]) ++ rest) 35)]), (p11_4, q11_4, m11_4)) (by simp only; omega) ⟨rfl, hD', hsm', by simp only; omega, hcut, o11_4⟩ (by repeat' first | exact sR _ | exact sA _ _ | exact sN _ | apply s2 | apply s1) (by repeat' first | exact trivial | refine ⟨rfl, ?_⟩)
          · (refine WP_loopM (α := Nat × List ID × Option Addr × Nat × Hp) [_, _, _]  _ [67, 66, 9, 8, 5] (fun (s : Nat × List ID × Option Addr × Nat × Hp) => n.fields.length - s.1) (fun (s : Nat × List ID × Option Addr × Nat × Hp) =>  s.2.2.2.2) (fun (s : Nat × List ID × Option Addr × Nat × Hp) => [(68, .int .i64 (s.1 : Int)), (10, .slice s.2.2.1 s.2.1.length s.2.2.2.1)]) (fun hh (s : Nat × List ID × Option Addr × Nat × Hp) => hh = h5 ∧ s.1 ≤ n.fields.length ∧ s.2.1 = w' ++ refsV (n.fields.take s.1) ∧ OS h5 35 2 IDC (.slice s.2.2.1 s.2.1.length s.2.2.2.1) s.2.1 s.2.2.2.2) (0, w', some ⟨b, 0, none⟩, cw, [(b, cells (flatI (w' ++ [(x1, x2)]) ++ rest) 35)]) rfl ⟨_, _, rfl, ⟨_, _, rfl, ⟨_, _, rfl, ⟨_, _, rfl, ⟨_, _, rfl, rfl, rfl⟩, rfl⟩, rfl⟩, rfl⟩, rfl⟩ (by repeat' first | exact trivial | refine ⟨rfl, ?_⟩) ?_ ?_)
            · exact ⟨rfl, Nat.zero_le _, by simp [refsV_nil], hcut⟩
            rintro h6 ⟨k, ww, pw, cw2, Mw⟩ _ ⟨rfl, hk, hww, hW2⟩
            simp only at hk hww hW2
            dsimp only
            have hl1 := refsV_length (n.fields.take k)
            have hl2 : (n.fields.take k).length ≤ 1000 := by rw [List.length_take]; omega
            have hl3 : ww.length = w'.length + (refsV (n.fields.take k)).length := by rw [hww, List.length_append]
            by_cases hlt : k < n.fields.length
            · obtain ⟨⟨f1, f2, i1, i2⟩, ex⟩ := get_of hlt
              have htk := refsV_take ex
              (focus (refine Wr ?_; refine Tc ?_; refine On ?_; refine WP_seq ?_; refine Wc ?_ ?_ <;> intro c13_1 <;> (first | simp [*] at c13_1; done | try simp at c13_1); refine WP_skip ?_; refine then_n ?_; refine WP_seq ?_; refine WP_block ?_; refine Wr ?_; refine Ti ?_; refine Tl ?_; refine Le ?_; rintro _ _ _ rfl; refine Tal ?_; intro b13_3; refine Tw u0 ?_; refine On ?_; refine Wr ?_; refine Tf ?_; refine Tl ?_; refine Lo m0 ?_; refine Tc ?_; refine On ?_; refine Wc ?_ ?_ <;> intro c13_4 <;> (first | simp [*] at c13_4; done | try simp at c13_4); (focus (refine R_region ?_; refine Tm ?_; refine Tf ?_; refine Tl ?_; refine L_sub (Rd.own m0) (ty rfl) rfl ?_; refine S_c rfl rfl rfl (C_buildSlice rfl (elm rfl) (zer rfl) rfl ⟨_, _, _, rfl, rfl, rfl, rfl, rfl, rfl⟩ rfl rfl ?_); intro b13_5; refine S_w rfl rfl rfl (W_app1 [_, _, _, _] _ ‹_› rfl rfl rfl rfl rfl rfl (elm rfl) (zer rfl) rfl rfl rfl rfl rfl (by (try simp only [lA]); omega) (by (try simp only [lA]); omega) ?_); rintro p13_6 q13_6 m13_6 o13_6; refine Tm ?_; refine OPS_nil ?_; refine block_n ?_; refine then_n ?_; refine R_region ?_; refine Ta ?_; refine Tm ?_; refine OPS_nil ?_)); rotate_left 1; (focus (refine WP_skip ?_; refine block_n ?_; refine then_n ?_; refine R_region ?_; refine Ta ?_; refine Tm ?_; refine OPS_nil ?_)); rotate_left 1))
              · simp only [c13_4, if_true] at htk
                refine roundF_n (k + 1, ww ++ [(i1, i2)], p13_6, q13_6, m13_6) (by simp only; omega) ⟨rfl, by simp only; omega, ?_, o13_6⟩ (by repeat' first | exact sR _ | exact sA _ _ | exact sN _ | apply s2 | apply s1) (by repeat' first | exact trivial | refine ⟨rfl, ?_⟩)
                simp only; rw [htk, hww, List.append_assoc]
              · simp only [c13_4, if_false, List.append_nil] at htk
                refine roundF_n (k + 1, ww, pw, cw2, Mw) (by simp only; omega) ⟨rfl, by simp only; omega, ?_, hW2⟩ (by repeat' first | exact sR _ | exact sA _ _ | exact sN _ | apply s2 | apply s1) (by repeat' first | exact trivial | refine ⟨rfl, ?_⟩)
                simp only; rw [htk, hww]
            · have hge : k = n.fields.length := by omega
              subst hge
              rw [List.take_length] at hww hl1 hl2 hl3
              (focus (refine Wr ?_; refine Tc ?_; refine On ?_; refine WP_seq ?_; refine Wc ?_ ?_ <;> intro c14_1 <;> (first | simp [*] at c14_1; done | try simp at c14_1); refine WP_exit ?_; refine then_e ?_; refine roundF_e ?_; refine block_e ?_; refine block_n ?_))
              have hro := refsOf_plain c11_5
              have hD' : Dfs g roots ww (out ++ [(x1, x2)]) := by
                subst hww
                rw [← hro]; exact Dfs_push hD ho hso
              have := Dfs_len hD'
              exact roundF_n (ww, out ++ [(x1, x2)], mput (x1, x2) (.bool true) sm, (pw, cw2, Mw), (p11_4, q11_4, m11_4)) (by simp only; omega) ⟨rfl, hD', hsm', by simp only; omega, hW2, o11_4⟩ (by repeat' first | exact sR _ | exact sA _ _ | exact sN _ | apply s2 | apply s1) (by repeat' first | exact trivial | refine ⟨rfl, ?_⟩)
  · rintro d e h1 L1 hl1 hx _; exact hx.elim
end Go.Proofs.YtfhoecgiahpddaaGreat
/-
  CONTRACTS: observer.Graph.
-/
set_option linter.all false
namespace Go.Proofs.YtfhoecgiahpddaaGreat
open Go.Mesh Go.RowKit
set_option maxRecDepth 100000
set_option linter.unusedVariables false
set_option maxHeartbeats 4000000
attribute [local irreducible] WP OPS ANY ANYo LG LV FSpec PSpec QOP OPc OPw thenQ blockQ roundQ roundF retQ retM Rd At SLB OS cmpI orI cmpID namedB valB nodeB kindB validG valAux idxI findG zeroV viewOf vwAt idxOf recv flyB scionOf moveOf numberedOf idOf valueOf mget mput localB carriedB stubOf followF followOf flOf flightsOf flPre setL minusL compactL putI mergeN insN insAll unionR NMap Coll retN bodyS GMap Dfs refsV refsOf reachL
/-- the node that a flight moves -/
def movedOf (vs : List View) (i : View × Flight) : Nd := ⟨i.2.msg.parcel.id, i.2.msg.parcel.kind, i.2.msg.parcel.cls, i.2.msg.parcel.fields.map (valueOf vs i.1.machine i.2.to)⟩
def isMove (i : View × Flight) : Bool := decide (i.2.msg.kind = 1)
def movedG (vs : List View) (l : List (View × Flight)) : List (List Nd) := (l.filter isMove).map fun i => [movedOf vs i]
def graphParts (vs : List View) : List (List Nd) := vs.map (·.objects) ++ movedG vs (flightsOf vs)
def graphR (vs : List View) : List Nd × Int := unionR (graphParts vs)
/-- few and small views -/
structure Small (vs : List View) : Prop where
  len : vs.length ≤ 5
  objs : ∀ v, v ∈ vs → v.objects.length ≤ 12
  stubs : ∀ v, v ∈ vs → v.stubs.length ≤ 12
  scions : ∀ v, v ∈ vs → v.scions.length ≤ 12
  names : ∀ v, v ∈ vs → v.names.length ≤ 6
  mail : ∀ v, v ∈ vs → v.mail.length ≤ 6
  flights : ∀ v, v ∈ vs → v.flights.length ≤ 6
  received : ∀ v, v ∈ vs → v.received.length ≤ 10
  fields : ∀ v, v ∈ vs → ∀ n, n ∈ v.objects → n.fields.length ≤ 6
  args : ∀ v, v ∈ vs → ∀ m, m ∈ v.mail → m.args.length ≤ 6
  letter : ∀ v, v ∈ vs → ∀ x, x ∈ v.flights → x.msg.args.length ≤ 6
  moved : ∀ v, v ∈ vs → ∀ x, x ∈ v.flights → x.msg.parcel.fields.length ≤ 6
  pmail : ∀ v, v ∈ vs → ∀ x, x ∈ v.flights → x.msg.parcel.mail.length ≤ 4
  pargs : ∀ v, v ∈ vs → ∀ x, x ∈ v.flights → ∀ m, m ∈ x.msg.parcel.mail → m.length ≤ 6
theorem slb_of_at {α : Type} {B : Nat} {h : Frag} {k : Nat} {C : CR α} {b cap : Nat} {xs : List α} {us : List Value} (ha : At h b 0 us) (hf : Flat h k C xs us) (hm : xs.length ≤ B) : SLB B h k C (.slice (some ⟨b, 0, none⟩) xs.length cap) xs := by
  unfold At at ha
  obtain ⟨arr, t, fz, e, g⟩ := ha
  exact SLB.of_flat e hf g hm
theorem flatMap_le {α β : Type} (f : α → List β) (k : Nat) : ∀ l : List α, (∀ x, x ∈ l → (f x).length ≤ k) → (l.flatMap f).length ≤ l.length * k
  | [], _ => by simp
  | x :: l, h => by
    have h1 := h x (by simp)
    have h2 := flatMap_le f k l fun y hy => h y (by simp [hy])
    simp only [List.flatMap_cons, List.length_append, List.length_cons, Nat.add_mul, Nat.one_mul]
    omega
theorem flightsOf_mem {vs : List View} {i : View × Flight} (h : i ∈ flightsOf vs) : i.1 ∈ vs ∧ i.2 ∈ i.1.flights := by
  simp only [flightsOf, List.mem_flatMap, flOf, List.mem_map, List.mem_filter] at h
  obtain ⟨v, hv, x, ⟨hx, _⟩, rfl⟩ := h
  exact ⟨hv, hx⟩
theorem Small.fl {vs : List View} (s : Small vs) : (flightsOf vs).length ≤ 30 := by
  have := flatMap_le (flOf vs) 6 vs fun v hv => by
    simp only [flOf, List.length_map]
    exact Nat.le_trans (List.length_filter_le _ _) (s.flights v hv)
  have h2 := s.len
  rw [flightsOf]; omega
theorem movedG_snoc (vs : List View) (l : List (View × Flight)) (i : View × Flight) : movedG vs (l ++ [i]) = movedG vs l ++ (if isMove i then [[movedOf vs i]] else []) := by
  simp only [movedG, List.filter_append, List.map_append]
  by_cases h : isMove i = true <;> simp [h]
theorem movedG_len (vs : List View) (l : List (View × Flight)) : (movedG vs l).length ≤ l.length := by simp only [movedG, List.length_map]; exact List.length_filter_le _ _
theorem movedG_flat (vs : List View) (l : List (View × Flight)) : (movedG vs l).flatten.length ≤ l.length := by
  have : (movedG vs l).flatten.length = (movedG vs l).length := by
    rw [movedG]; generalize l.filter isMove = r
    induction r with
    | nil => rfl
    | cons x r ih => simp only [List.map_cons, List.flatten_cons, List.length_append, List.length_cons, List.length_nil] at ih ⊢; omega
  have h2 := movedG_len vs l
  omega
theorem Small.parts {vs : List View} (s : Small vs) : (graphParts vs).flatten.length ≤ 1000000 := by
  have h1 := flatMap_le (fun v : View => v.objects) 12 vs s.objs
  have h2 := movedG_flat vs (flightsOf vs)
  have h3 := s.fl
  have h4 := s.len
  rw [graphParts, List.flatten_append, List.length_append, ← List.flatMap_def]
  omega
attribute [local irreducible] movedOf movedG graphParts graphR isMove
theorem graph_s {h : Frag} {a : Value} {vs : List View} (hs : SL h 13 (ViewC 4398046511104) a vs) (sm : Small vs) : PSpec Tryz.prog 11 #[a] h (fun h' v => ∃ us, v = .tuple #[.agg us.toArray, .int .i64 (graphR vs).2] ∧ GraphC 4398046511104 h' (graphR vs).1 us) := by
  have hlen := sm.len
  have hfl := sm.fl
  obtain ⟨pv, cv, rfl⟩ := hs.slice
  refine pspec_ofN (vs := [.slice pv vs.length cv]) Tryz.func11 Tryz.ntmps11 rfl rfl ?_
  (focus (refine Wr ?_; refine Tal ?_; intro b0_1; refine Tm ?_; refine On ?_; refine Wr ?_; refine Tm ?_; refine S_c rfl rfl rfl (C_call (of_s ‹_›) rfl rfl ⟨_, _, rfl, rfl, rfl⟩ (cal rfl) ?_); rintro h0_2 _ l0_2 ⟨pf0_2, qf0_2, mb0_2, rfl, ff0_2⟩; replace hs := hs.up l0_2; refine Tal ?_; intro b0_3; refine Tw u0 ?_; refine On ?_; refine Wr ?_; refine Tal ?_; intro b0_4; refine On ?_; refine WP_seq ?_; refine Wr ?_; refine Tm ?_; refine Tlen ?_; refine Tm ?_; refine On ?_; refine WP_block ?_))
  (focus (refine WP_keepM [_] [_] _ rfl ?_; rintro h1_k l1_k k1_k; have a1_k := at_of_keep k1_k; clear k1_k; replace ff0_2 := ff0_2.up l1_k; replace hs := hs.up l1_k))
  (refine WP_loopF (α := Nat × List (List Nd) × Option Addr × Nat × Hp) [17, 16, 5, 4, 2] (fun (s : Nat × List (List Nd) × Option Addr × Nat × Hp) => vs.length - s.1) (fun (s : Nat × List (List Nd) × Option Addr × Nat × Hp) => (b0_4, cells [.slice s.2.2.1 s.2.1.length s.2.2.2.1] 98) :: (b0_1, cells [.slice none 0 0] 27) :: (s.2.2.2.2 ++ [])) (fun (s : Nat × List (List Nd) × Option Addr × Nat × Hp) => [(18, .int .i64 (s.1 : Int))]) (fun hh (s : Nat × List (List Nd) × Option Addr × Nat × Hp) => hh = h1_k ∧ s.1 ≤ vs.length ∧ s.2.1 = (vs.take s.1).map (·.objects) ∧ OS h1_k 27 1 (GraphC 4398046511104) (.slice s.2.2.1 s.2.1.length s.2.2.2.1) s.2.1 s.2.2.2.2) (0, [], none, 0, []) ⟨_, _, rfl, ⟨_, _, rfl, ⟨_, _, rfl, ⟨_, _, rfl, ⟨_, _, rfl, rfl, rfl⟩, rfl⟩, rfl⟩, rfl⟩, rfl⟩ ?_ (by repeat' first | exact sR _ | exact sA _ _ | exact sN _ | apply s2 | apply s1) (by repeat' first | exact trivial | refine ⟨rfl, ?_⟩) ?_)
  · exact ⟨rfl, Nat.zero_le _, rfl, OS.nil _ _ _ _⟩
  rintro h1 ⟨k, gs, p, c, M⟩ _ ⟨rfl, hk, hgs, hO⟩
  simp only at hk hgs hO
  dsimp only
  have hgl : gs.length = k := by rw [hgs]; simp; omega
  by_cases hlt : k < vs.length
  · obtain ⟨v, ev⟩ := get_of hlt
    (focus (refine Wr ?_; refine Tc ?_; refine On ?_; refine WP_seq ?_; refine Wc ?_ ?_ <;> intro c3_1 <;> (first | simp [*] at c3_1; done | try simp at c3_1); refine WP_skip ?_; refine then_n ?_; refine WP_seq ?_; refine WP_block ?_; refine Wr ?_; refine Ti ?_; refine Tl ?_; refine Le ?_; rintro _ _ _ ⟨xi3_2, xa3_2, po3_2, qo3_2, ps3_2, qs3_2, pc3_2, qc3_2, pn3_2, qn3_2, pm3_2, qm3_2, xw3_2, xv3_2, pf3_2, qf3_2, pr3_2, qr3_2, xe3_2, xf3_2, rfl, vo3_2, vs3_2, vc3_2, vn3_2, vm3_2, vf3_2, vr3_2⟩; refine Tal ?_; intro b3_3; refine Tw u0 ?_; refine On ?_; refine R_region ?_; refine Tl ?_; refine L_one (Rd.own m1) (ty rfl) ?_; refine Tf ?_; refine Tl ?_; refine L_sub (Rd.own m0) (ty rfl) rfl ?_; refine S_c rfl rfl rfl (C_buildSlice rfl (elm rfl) (zer rfl) rfl ⟨_, _, _, rfl, rfl, rfl, rfl, rfl, rfl⟩ rfl rfl ?_); intro b3_4))
    refine S_w rfl rfl rfl (W_app1 (y := v.objects) (by_ := 24) [_, _, _] _ hO rfl rfl rfl rfl rfl rfl (elm rfl) (zer rfl) rfl rfl rfl rfl ⟨_, _, rfl, vo3_2⟩ (by omega) (by omega) ?_)
    rintro p2 c2 M2 hO2
    (focus (refine S_w0 rfl rfl (W_one rfl rfl rfl (ty rfl) u1 rfl rfl rfl ?_); refine OPS_nil ?_; refine block_n ?_; refine then_n ?_; refine R_region ?_; refine Ta ?_; refine Tm ?_; refine OPS_nil ?_))
    refine roundF_n (k + 1, gs ++ [v.objects], p2, c2, M2) (by simp only; omega) ⟨rfl, by simp only; omega, ?_, hO2⟩ (by repeat' first | exact sR _ | exact sA _ _ | exact sN _ | apply s2 | apply s1) (by repeat' first | exact trivial | refine ⟨rfl, ?_⟩)
    simp only; rw [hgs, List.take_add_one, ev]; simp
  · have hge : k = vs.length := by omega
    subst hge
    rw [List.take_length] at hgs
    (focus (refine Wr ?_; refine Tc ?_; refine On ?_; refine WP_seq ?_; refine Wc ?_ ?_ <;> intro c5_1 <;> (first | simp [*] at c5_1; done | try simp at c5_1); refine WP_exit ?_; refine then_e ?_; refine roundF_e ?_; refine block_e ?_; refine then_n ?_; refine WP_seq ?_; refine Wr ?_; refine Tl ?_; refine Lp ?_; refine S_c rfl rfl rfl (C_call (flights_s ‹_›) rfl rfl ⟨_, _, rfl, rfl, rfl⟩ (cal rfl) ?_); rintro h5_2 _ l5_2 ⟨bi5_2, rfl, it5_2⟩; replace a1_k := a1_k.up l5_2; replace ff0_2 := ff0_2.up l5_2; replace hs := hs.up l5_2; replace hO := hO.up l5_2; refine On ?_; refine WP_block ?_))
    refine WP_rangeS [] [] (fun s : List (List Nd) × Option Addr × Nat × Hp => (b0_4, cells [.slice s.2.1 s.1.length s.2.2.1] 98) :: (b0_1, cells [.slice none 0 0] 27) :: s.2.2.2)
      (fun pre hh s => le h5_2 hh ∧ s.1 = vs.map (·.objects) ++ movedG vs pre ∧ OS hh 27 1 (GraphC 4398046511104) (.slice s.2.1 s.1.length s.2.2.1) s.1 s.2.2.2) (fun _ _ _ => False) (gs, p, c, M) it5_2 rfl Tryz.func77 (by decide) rfl (by rintro _ _ _ ⟨_, _, rfl, _⟩; rfl) rfl rfl ⟨le_refl _, by simp [movedG, hgs], hO⟩ ?_ ?_ ?_
    · clear hO hgl hgs M p c gs
      rintro l pre ⟨v, x⟩ _ h2 ⟨gs, p, c, M⟩ hl1 ⟨hl2, hgs, hO⟩ hp ⟨us, ws, rfl, hu1, hu2, hu3, hw1, hw2, hw3⟩
      simp only at hgs hO hu3 hw3
      obtain ⟨hvm, hxm⟩ := flightsOf_mem (hp.subset (by simp : (v, x) ∈ pre ++ [(v, x)]))
      have hpl := hp.length_le
      have hsn := movedG_snoc vs pre (v, x)
      have hgl : gs.length ≤ 35 := by
        rw [hgs, List.length_append, List.length_map]; have := movedG_len vs pre; simp at hpl; omega
      have hfl6 := sm.moved v hvm x hxm
      (replace it5_2 := it5_2.up hl1; replace a1_k := a1_k.up hl1; replace ff0_2 := ff0_2.up hl1; replace hs := hs.up hl1)
      obtain ⟨hi, xa, po, qo, qs, qt, pc, qc, pn, qn, pm, qm, xw, xv, pf, qf, pr, qr, xe, xf, rfl, -⟩ := hu3
      obtain ⟨ya, yb, yc, yd, ye, pa, qa, pg, qg, ph, qh, yw, y1, y2, y3, y4, y5, y6, y7, y8, y9, y10, y11, y12, y13, y14, y15, rfl, ha, hfs, hm⟩ := hw3
      dsimp only [parFr]
      (focus (refine Wr ?_; refine Tal ?_; intro b7_1; refine Tw u0 ?_; refine On ?_; refine R_region ?_; refine Tal ?_; intro b7_2; refine Tw u0 ?_; refine On ?_))
      refine ⟨rfl, ?_⟩
      (focus (refine WP_block ?_; refine Wr ?_; refine Tf ?_; refine Tf ?_; refine Tl ?_; refine L_fld2 (Rd.own m0) ?_; refine LV_a (ty rfl) rfl ?_; refine Tal ?_; intro b8_1; refine Tw u0 ?_; refine On ?_; refine WP_seq ?_; refine Wr ?_; refine Tf ?_; refine Tf ?_; refine Tl ?_; refine L_fld2 (Rd.own m1) ?_; refine LV_1 (ty rfl) rfl ?_; refine Tc ?_; refine On ?_; refine Wc ?_ ?_ <;> intro c8_2 <;> (first | simp [*] at c8_2; done | try simp at c8_2); (focus (refine WP_exit ?_; refine then_e ?_; refine block_e ?_)); rotate_left 1; (focus (refine WP_skip ?_; refine then_n ?_; refine Wr ?_; refine Tf ?_; refine Tl ?_; refine L_sub (Rd.own m0) (ty rfl) rfl ?_; refine Tf ?_; refine Tl ?_; refine Lo m0 ?_; refine Tf ?_; refine Tl ?_; refine Lo m0 ?_; refine S_q rfl rfl rfl (Q_build rfl (by decide +kernel) (zer rfl) ⟨_, _, _, _, _, _, _, rfl, fld rfl rfl, ty rfl, rfl, rfl, ⟨_, _, _, _, _, _, _, rfl, fld rfl rfl, ty rfl, rfl, rfl, ⟨_, _, _, _, _, _, _, rfl, fld rfl rfl, ty rfl, rfl, rfl, rfl, rfl⟩, rfl⟩, rfl⟩ rfl) ?_; refine Tal ?_; intro b8_3; refine Tw u0 ?_; refine On ?_; refine WP_seq ?_; refine Wr ?_; refine Tf ?_; refine Tl ?_; refine Lo m1 ?_; refine Tlen ?_; refine Tm ?_; refine On ?_; refine WP_block ?_)); rotate_left 1))
      · rw [if_neg (by simp [isMove, c8_2])] at hsn
        refine bodyS_n (gs, p, c, M) ?_ (by repeat' first | exact sR _ | exact sA _ _ | exact sN _ | apply s2 | apply s1)
        refine ⟨hl2, ?_, hO⟩
        simp only; rw [hsn, List.append_nil]; exact hgs
      rw [if_pos (by simp [isMove, c8_2])] at hsn
      (focus (refine WP_keepM [_] [_] _ rfl ?_; rintro h9_k l9_k k9_k; have a9_k := at_of_keep k9_k; clear k9_k; replace hO := hO.up l9_k; replace it5_2 := it5_2.up l9_k; replace a1_k := a1_k.up l9_k; replace ff0_2 := ff0_2.up l9_k; replace hs := hs.up l9_k; replace ha := ha.up l9_k; replace hfs := hfs.up l9_k; replace hm := hm.up l9_k))
      (focus (refine WP_keepM [_] [_] _ rfl ?_; rintro h10_k l10_k k10_k; have a10_k := at_of_keep k10_k; clear k10_k; replace a9_k := a9_k.up l10_k; replace hO := hO.up l10_k; replace it5_2 := it5_2.up l10_k; replace a1_k := a1_k.up l10_k; replace ff0_2 := ff0_2.up l10_k; replace hs := hs.up l10_k; replace ha := ha.up l10_k; replace hfs := hfs.up l10_k; replace hm := hm.up l10_k))
      (focus (refine WP_keepM [_] [_] _ rfl ?_; rintro h11_k l11_k k11_k; have a11_k := at_of_keep k11_k; clear k11_k; replace a10_k := a10_k.up l11_k; replace a9_k := a9_k.up l11_k; replace hO := hO.up l11_k; replace it5_2 := it5_2.up l11_k; replace a1_k := a1_k.up l11_k; replace ff0_2 := ff0_2.up l11_k; replace hs := hs.up l11_k; replace ha := ha.up l11_k; replace hfs := hfs.up l11_k; replace hm := hm.up l11_k))
      (refine WP_loopF (α := Nat × List Val × Option Addr × Nat × Hp) [48, 47, 11, 9, 8, 5, 4] (fun (s : Nat × List Val × Option Addr × Nat × Hp) => x.msg.parcel.fields.length - s.1) (fun (s : Nat × List Val × Option Addr × Nat × Hp) => (b8_3, cells [.int .i64 x.msg.parcel.id.1, .int .i64 x.msg.parcel.id.2, .int .i64 x.msg.parcel.kind, .int .i64 x.msg.parcel.cls, .slice s.2.2.1 s.2.1.length s.2.2.2.1] 38) :: (b0_4, cells [.slice p gs.length c] 98) :: (b0_1, cells [.slice none 0 0] 27) :: (s.2.2.2.2 ++ (M ++ []))) (fun (s : Nat × List Val × Option Addr × Nat × Hp) => [(49, .int .i64 (s.1 : Int))]) (fun hh (s : Nat × List Val × Option Addr × Nat × Hp) => hh = h11_k ∧ s.1 ≤ x.msg.parcel.fields.length ∧ s.2.1 = (x.msg.parcel.fields.take s.1).map (valueOf vs v.machine x.to) ∧ OS h11_k 42 4 ValC (.slice s.2.2.1 s.2.1.length s.2.2.2.1) s.2.1 s.2.2.2.2) (0, [], none, 0, []) ⟨_, _, rfl, ⟨_, _, rfl, ⟨_, _, rfl, ⟨_, _, rfl, ⟨_, _, rfl, ⟨_, _, rfl, ⟨_, _, rfl, rfl, rfl⟩, rfl⟩, rfl⟩, rfl⟩, rfl⟩, rfl⟩, rfl⟩ ?_ (by repeat' first | exact sR _ | exact sA _ _ | exact sN _ | apply s2 | apply s1) (by repeat' first | exact trivial | refine ⟨rfl, ?_⟩) ?_)
      · exact ⟨rfl, Nat.zero_le _, rfl, OS.nil _ _ _ _⟩
      rintro h3 ⟨k, fs, p2, c2, M2⟩ _ ⟨rfl, hk, hfe, hO2⟩
      simp only at hk hfe hO2
      dsimp only
      have hfl2 : fs.length = k := by rw [hfe]; simp; omega
      by_cases hlt : k < x.msg.parcel.fields.length
      · obtain ⟨r, er⟩ := get_of hlt
        (focus (refine Wr ?_; refine Tc ?_; refine On ?_; refine WP_seq ?_; refine Wc ?_ ?_ <;> intro c13_1 <;> (first | simp [*] at c13_1; done | try simp at c13_1); refine WP_skip ?_; refine then_n ?_; refine WP_seq ?_; refine WP_block ?_; refine Wr ?_; refine Ti ?_; refine Tl ?_; refine Le ?_; rintro _ _ _ rfl; refine Tal ?_; intro b13_3; refine Tw u0 ?_; refine On ?_; refine R_draw (n := 13) mixed rfl ?_; refine Va 0 ?_; refine Vf 1 ?_; refine Va 1 ?_; refine Vl 3 ?_; refine Lo m1 ?_; refine Va 2 ?_; refine Vl 7 ?_; refine Lp ?_; refine Va 3 ?_; refine Vf 15 ?_; refine Va 4 ?_; refine Vl 31 ?_; refine L_fld (Rd.pers ‹_›) (ty rfl) rfl ?_; refine Va 5 ?_; refine Vf 63 ?_; refine Va 6 ?_; refine Vl 127 ?_; refine L_fld (Rd.pers ‹_›) (ty rfl) rfl ?_; refine Va 7 ?_; refine Vl 255 ?_; refine Lg m0 ?_; refine Va 8 ?_; refine A_c (m' := 511) rfl rfl rfl rfl (by decide +kernel) (C_callv (value_s ‹_›) rfl rfl ⟨_, _, rfl, ⟨_, _, rfl, ⟨_, _, rfl, ⟨_, _, rfl, rfl, rfl⟩, rfl⟩, rfl⟩, rfl⟩ (cal rfl) ?_); refine Va 9 ?_; refine A_c (m' := 1023) rfl rfl rfl rfl (by decide +kernel) (C_buildSlice rfl (elm rfl) (zer rfl) rfl ⟨_, _, _, rfl, rfl, rfl, rfl, rfl, rfl⟩ rfl rfl ?_); intro b13_4; refine Va 10 ?_; refine A_w (m' := 2047) rfl rfl rfl rfl rfl (by decide +kernel) (W_app1 [_, _, _, _] _ ‹_› rfl rfl rfl rfl rfl rfl (elm rfl) (zer rfl) rfl rfl rfl rfl rfl (by (try simp only [lA]); omega) (by (try simp only [lA]); omega) ?_); rintro p13_5 q13_5 m13_5 o13_5; refine Va 11 ?_; refine Vf 4095 ?_; refine Va 12 ?_; refine A_w0 (m' := 8191) rfl rfl rfl rfl (by decide +kernel) (W_fld rfl rfl rfl (ty rfl) u1 rfl rfl rfl rfl ?_); refine A_done (by decide +kernel) ?_; refine block_n ?_; refine then_n ?_; refine R_region ?_; refine Ta ?_; refine Tm ?_; refine OPS_nil ?_))
        refine roundF_n (k + 1, fs ++ [valueOf vs v.machine x.to r], p13_5, q13_5, m13_5) (by simp only; omega) ⟨rfl, by simp only; omega, ?_, o13_5⟩ (by repeat' first | exact sR _ | exact sA _ _ | exact sN _ | apply s2 | apply s1) (by repeat' first | exact trivial | refine ⟨rfl, ?_⟩)
        simp only; rw [hfe, List.take_add_one, er]; simp
      · have hge : k = x.msg.parcel.fields.length := by omega
        subst hge
        rw [List.take_length] at hfe
        refine WP_keepM [_, _, _] M2 _ rfl fun h4 hl4 hm4 => ?_
        have hN : SL h4 4 ValC (.slice p2 fs.length c2) fs := hO2.sl hl4 ValC_mono hm4 (by omega)
        clear hO2 hm4
        (replace a11_k := a11_k.up hl4; replace a10_k := a10_k.up hl4; replace a9_k := a9_k.up hl4; replace hO := hO.up hl4; replace it5_2 := it5_2.up hl4; replace a1_k := a1_k.up hl4; replace ff0_2 := ff0_2.up hl4; replace hs := hs.up hl4; replace ha := ha.up hl4; replace hfs := hfs.up hl4; replace hm := hm.up hl4)
        have hmo : movedOf vs (v, x) = ⟨x.msg.parcel.id, x.msg.parcel.kind, x.msg.parcel.cls, fs⟩ := by rw [movedOf, hfe]
        rw [hmo] at hsn
        (focus (refine Wr ?_; refine Tc ?_; refine On ?_; refine WP_seq ?_; refine Wc ?_ ?_ <;> intro c15_1 <;> (first | simp [*] at c15_1; done | try simp at c15_1); refine WP_exit ?_; refine then_e ?_; refine roundF_e ?_; refine block_e ?_; refine then_n ?_; refine R_region ?_; refine Tl ?_; refine L_one (Rd.own m1) (ty rfl) ?_; refine Tl ?_; refine Lg m0 ?_; refine S_c rfl rfl rfl (C_buildSlice rfl (elm rfl) (zer rfl) rfl ⟨_, _, _, rfl, rfl, rfl, rfl, rfl, rfl⟩ rfl rfl ?_); intro b15_2; refine S_q rfl rfl rfl (Q_build rfl (by decide +kernel) (zer rfl) ⟨_, _, _, _, _, _, _, rfl, fld rfl rfl, ty rfl, rfl, rfl, rfl, rfl⟩ rfl) ?_; refine S_c rfl rfl rfl (C_buildSlice rfl (elm rfl) (zer rfl) rfl ⟨_, _, _, rfl, rfl, rfl, rfl, rfl, rfl⟩ rfl rfl ?_); intro b15_3))
        (focus (refine OPS_keepM [_] [_] _ rfl ?_; rintro h16_k l16_k k16_k; have a16_k := at_of_keep k16_k; clear k16_k; replace hN := hN.up l16_k; replace a11_k := a11_k.up l16_k; replace a10_k := a10_k.up l16_k; replace a9_k := a9_k.up l16_k; replace hO := hO.up l16_k; replace it5_2 := it5_2.up l16_k; replace a1_k := a1_k.up l16_k; replace ff0_2 := ff0_2.up l16_k; replace hs := hs.up l16_k; replace ha := ha.up l16_k; replace hfs := hfs.up l16_k; replace hm := hm.up l16_k))
        refine S_w rfl rfl rfl (W_app1 (y := [(⟨x.msg.parcel.id, x.msg.parcel.kind, x.msg.parcel.cls, fs⟩ : Nd)]) (by_ := 24) [_, _, _] _ hO rfl rfl rfl rfl rfl rfl (elm rfl) (zer rfl) rfl rfl rfl rfl ⟨_, _, rfl, slb_of_at a16_k (Flat.one rfl rfl ⟨_, _, rfl, hN⟩) (by simp)⟩ (by omega) (by omega) ?_)
        rintro p3 c3 M3 hO3
        (focus (refine S_w0 rfl rfl (W_one rfl rfl rfl (ty rfl) u1 rfl rfl rfl ?_); refine OPS_nil ?_; refine block_n ?_))
        refine bodyS_n (gs ++ [[(⟨x.msg.parcel.id, x.msg.parcel.kind, x.msg.parcel.cls, fs⟩ : Nd)]], p3, c3, M3) ?_ (by repeat' first | exact sR _ | exact sA _ _ | exact sN _ | apply s2 | apply s1)
        refine ⟨le_trans hl2 (le_trans l9_k (le_trans l10_k (le_trans l11_k (le_trans hl4 l16_k)))), ?_, hO3⟩
        simp only; rw [hsn, hgs, List.append_assoc]
    · clear hO hgl hgs M p c gs
      rintro d h2 ⟨gs, p, c, M⟩ hl1 ⟨hl2, hgs, hO⟩
      simp only at hgs hO
      (replace it5_2 := it5_2.up hl1; replace a1_k := a1_k.up hl1; replace ff0_2 := ff0_2.up hl1; replace hs := hs.up hl1)
      have hb := sm.parts
      have hgr : unionR gs = graphR vs := by rw [graphR, graphParts, hgs]
      have hgl : gs.length ≤ 35 := by
        rw [hgs, List.length_append, List.length_map]; have := movedG_len vs (flightsOf vs); omega
      rw [graphParts, ← hgs] at hb
      (focus (refine block_n ?_; refine then_n ?_; refine Wr ?_; refine Tl ?_; refine L_one (Rd.own m0) (ty rfl) ?_))
      refine OPS_keepM [_, _] M [dObj d] rfl fun h3 hl3 hm3 => ?_
      have hSL : SL h3 1 (GraphC 4398046511104) (.slice p gs.length c) gs := hO.sl hl3 (GraphC_mono _) hm3 (by omega)
      refine S_c rfl rfl rfl (C_call (union_s hSL hb) rfl rfl ⟨_, _, rfl, rfl, rfl⟩ (cal rfl) ?_)
      rintro h4 _ hl4 ⟨_, rfl, pg, cg, rfl, hg⟩
      (focus (refine Tx ?_; refine Tx ?_; refine Tw u1 ?_; refine Tm ?_; refine On ?_; refine WP_ret ?_))
      refine nretP [_, _] (List.Sublist.refl _) (.inl rfl) rfl ⟨_, _, _, rfl, Loads_agg (Rd.own m1) (ty rfl) rfl, ⟨_, _, rfl, rfl, rfl⟩, rfl⟩ ?_
      rw [← hgr]
      exact ⟨_, rfl, _, _, rfl, hg⟩
    · rintro d e h1 L1 hl1 hx _; exact hx.elim
end Go.Proofs.YtfhoecgiahpddaaGreat
/-
  CONTRACTS: the reference's flights, scions, numbers and references (refmeshref55).
-/
set_option linter.all false
namespace Go.Proofs.YtfhoecgiahpddaaGreat
open Go.Mesh Go.RowKit
set_option maxRecDepth 100000
set_option linter.unusedVariables false
set_option maxHeartbeats 4000000
attribute [local irreducible] WP OPS ANY ANYo LG LV FSpec PSpec QOP OPc OPw thenQ blockQ roundQ roundF retQ retM Rd At SLB OS cmpI orI cmpID namedB valB nodeB kindB validG valAux idxI findG zeroV viewOf vwAt idxOf recv flyB scionOf moveOf numberedOf idOf valueOf mget mput localB carriedB msgB sizesB smallV fewB stubOf followF followOf flOf flightsOf flPre setL minusL compactL putI mergeN insN insAll unionR NMap Coll retN bodyS GMap Dfs refsV refsOf reachL movedOf movedG graphParts graphR isMove
theorem refFlying_s {h : Frag} {a : Value} {us ws : List Value} {vs : List View} {v : View} {x : Flight} (hs : SL h 13 (ViewC 4398046511104) a vs) (hv : ViewC 4398046511104 h v us) (hx : FlightC 4398046511104 h x ws) : PSpec Tryz.prog 46 #[a, .agg us.toArray, .agg ws.toArray] h (fun _ u => u = .bool (flyB vs v x)) := by
  obtain ⟨hi, xa, po, qo, qs, qt, pc, qc, pn, qn, pm, qm, xw, xv, pf, qf, pr, qr, xe, xf, rfl, -⟩ := hv
  obtain ⟨ya, yb, yc, yd, ye, pa, qa, pg, qg, ph, qh, yw, y1, y2, y3, y4, y5, y6, y7, y8, y9, y10, y11, y12, y13, y14, y15, rfl, -⟩ := hx
  refine pspec_of (vs := [a, .agg _, .agg _]) Tryz.func46 Tryz.ntmps46 rfl rfl ?_
  have hrl := vwAt_recv hs x.to
  obtain ⟨hw1, hw2⟩ := wrap_pred hi hrl
  have hfl : flyB vs v x = ((viewOf vs x.to).isSome && decide (recv (vwAt vs x.to) v.machine < x.seq)) := by rw [flyB]
  by_cases hr : 1 ≤ v.machine ∧ v.machine ≤ (vwAt vs x.to).received.length
  · have hw := hw2 hr.1
    obtain ⟨j, hj⟩ := Int.eq_ofNat_of_zero_le (a := v.machine - 1) (by omega)
    obtain ⟨y, ey⟩ := get_of (xs := (vwAt vs x.to).received) (k := j) (by omega)
    have hrc : recv (vwAt vs x.to) v.machine = y := by rw [recv, if_pos hr, hj]; simp [ey]
    rw [hrc] at hfl
    clear hw1 hw2
    (focus (refine Wr ?_; refine Tbx ?_; intro b0_1; refine Tbx ?_; intro b0_2; refine Tm ?_; refine On ?_; refine Wr ?_; refine Tm ?_; refine Tf ?_; refine Tl ?_; refine Lo m0 ?_; refine S_c rfl rfl rfl (C_call0 (refView_s ‹_›) rfl rfl ⟨_, _, rfl, ⟨_, _, rfl, rfl, rfl⟩, rfl⟩ (cal rfl) ?_); rintro _ ⟨cv0_3, rfl, cl0_3, co0_3, ⟨xi0_3, xa0_3, po0_3, qo0_3, ps0_3, qs0_3, pc0_3, qc0_3, pn0_3, qn0_3, pm0_3, qm0_3, xw0_3, xv0_3, pf0_3, qf0_3, pr0_3, qr0_3, xe0_3, xf0_3, rfl, vo0_3, vs0_3, vc0_3, vn0_3, vm0_3, vf0_3, vr0_3⟩⟩; refine Tm ?_; refine Tx ?_; refine Tx ?_; refine Tal ?_; intro b0_4; refine Tw u0 ?_; refine Tm ?_; refine On ?_; refine Wr ?_; refine Tm ?_; refine On ?_; refine WP_seq ?_; refine Wr ?_; refine Tf ?_; refine Tl ?_; refine Lo m2 ?_; refine S_q rfl rfl rfl (Q_sub rfl rfl rfl (by omega)) ?_; refine Tm ?_; refine On ?_; refine Wr ?_; refine Tm ?_; refine Tc ?_; refine Tm ?_; refine Ugs ?_ ?_ <;> intro c0_5 <;> (first | simp [*] at c0_5; done | try simp at c0_5); refine Ugm ?_; refine Ugf ?_; refine Ugl ?_; refine Lo m0 ?_; refine S_gq rfl rfl rfl rfl rfl rfl (Q_len rfl rfl rfl rfl rfl rfl) ?_; refine Ugc ?_; refine Tp1 ?_; refine On ?_; refine Wc ?_ ?_ <;> intro c0_6 <;> (first | simp [*] at c0_6; done | try simp at c0_6); (focus (refine R_region ?_; refine Tf ?_; refine Tl ?_; refine Lo m0 ?_; refine Tm ?_; refine S_q rfl rfl rfl (Q_indexS ‹_› ‹_› rfl rfl rfl (elm rfl) (by omega)) ?_; refine Tl ?_; refine L_el1 ‹_› ‹_› (ty rfl) ?_; rintro _ ⟨⟩; refine Tm ?_; refine On ?_; refine Wr ?_; refine Tm ?_; refine Tm ?_; refine Ugs ?_ ?_ <;> intro c0_8 <;> (first | simp [*] at c0_8; done | try simp at c0_8); (focus (refine Ugf ?_; refine Ugl ?_; refine Lo m1 ?_; refine Ugm ?_; refine Ugc ?_; refine Tp1 ?_; refine Tm ?_; refine On ?_; refine WP_ret ?_)); rotate_left 1; (focus (refine Tn ?_; refine Tn ?_; refine Tn ?_; refine Tn ?_; refine Tp0 ?_; refine Tm ?_; refine On ?_; refine WP_ret ?_)); rotate_left 1)); rotate_left 2; (focus (exfalso; omega))))
    all_goals refine pret (.inl rfl) rfl ⟨_, _, rfl, rfl, rfl⟩ ?_
    all_goals (rw [hfl]; clear hfl hs; simp [resOf, *])
  · have hrc : recv (vwAt vs x.to) v.machine = 0 := by rw [recv, if_neg hr]
    rw [hrc] at hfl
    rw [← hw1] at hr
    clear hw1 hw2
    (focus (refine Wr ?_; refine Tbx ?_; intro b1_1; refine Tbx ?_; intro b1_2; refine Tm ?_; refine On ?_; refine Wr ?_; refine Tm ?_; refine Tf ?_; refine Tl ?_; refine Lo m0 ?_; refine S_c rfl rfl rfl (C_call0 (refView_s ‹_›) rfl rfl ⟨_, _, rfl, ⟨_, _, rfl, rfl, rfl⟩, rfl⟩ (cal rfl) ?_); rintro _ ⟨cv1_3, rfl, cl1_3, co1_3, ⟨xi1_3, xa1_3, po1_3, qo1_3, ps1_3, qs1_3, pc1_3, qc1_3, pn1_3, qn1_3, pm1_3, qm1_3, xw1_3, xv1_3, pf1_3, qf1_3, pr1_3, qr1_3, xe1_3, xf1_3, rfl, vo1_3, vs1_3, vc1_3, vn1_3, vm1_3, vf1_3, vr1_3⟩⟩; refine Tm ?_; refine Tx ?_; refine Tx ?_; refine Tal ?_; intro b1_4; refine Tw u0 ?_; refine Tm ?_; refine On ?_; refine Wr ?_; refine Tm ?_; refine On ?_; refine WP_seq ?_; refine Wr ?_; refine Tf ?_; refine Tl ?_; refine Lo m2 ?_; refine S_q rfl rfl rfl (Q_arith rfl rfl rfl rfl) ?_; refine Tm ?_; refine On ?_; refine Wr ?_; refine Tm ?_; refine Tc ?_; refine Tm ?_; refine Ugs ?_ ?_ <;> intro c1_5 <;> (first | simp [*] at c1_5; done | try simp at c1_5); (focus (refine Ugm ?_; refine Ugf ?_; refine Ugl ?_; refine Lo m0 ?_; refine S_gq rfl rfl rfl rfl rfl rfl (Q_len rfl rfl rfl rfl rfl rfl) ?_; refine Ugc ?_; refine Tp1 ?_; refine On ?_; refine Wc ?_ ?_ <;> intro c1_6 <;> (first | simp [*] at c1_6; done | try simp at c1_6); (focus (exfalso; omega)); (focus (refine WP_skip ?_; refine then_n ?_; refine Wr ?_; refine Tm ?_; refine Tm ?_; refine Ugs ?_ ?_ <;> intro c1_7 <;> (first | simp [*] at c1_7; done | try simp at c1_7); (focus (refine Ugf ?_; refine Ugl ?_; refine Lo m1 ?_; refine Ugm ?_; refine Ugc ?_; refine Tp1 ?_; refine Tm ?_; refine On ?_; refine WP_ret ?_)); rotate_left 1; (focus (refine Tn ?_; refine Tn ?_; refine Tn ?_; refine Tn ?_; refine Tp0 ?_; refine Tm ?_; refine On ?_; refine WP_ret ?_)); rotate_left 1)); rotate_left 2)); rotate_left 2; (focus (refine Tn ?_; refine Tn ?_; refine Tn ?_; refine Tn ?_; refine Tn ?_; refine Tp0 ?_; refine On ?_; refine cond_f rfl ?_; refine WP_skip ?_; refine then_n ?_; refine Wr ?_; refine Tm ?_; refine Tm ?_; refine Ugs ?_ ?_ <;> intro c1_8 <;> (first | simp [*] at c1_8; done | try simp at c1_8); (focus (refine Ugf ?_; refine Ugl ?_; refine Lo m1 ?_; refine Ugm ?_; refine Ugc ?_; refine Tp1 ?_; refine Tm ?_; refine On ?_; refine WP_ret ?_)); rotate_left 1; (focus (refine Tn ?_; refine Tn ?_; refine Tn ?_; refine Tn ?_; refine Tp0 ?_; refine Tm ?_; refine On ?_; refine WP_ret ?_)); rotate_left 1)); rotate_left 2))
    all_goals refine pret (.inl rfl) rfl ⟨_, _, rfl, rfl, rfl⟩ ?_
    all_goals (rw [hfl]; clear hfl hs; simp [resOf, *])
theorem scionOf_def (vs : List View) (m cl nu : Int) : scionOf vs m cl nu = (vwAt vs m).scions.find? fun e => decide (e.client = cl) && decide (e.number = nu) := by rw [scionOf]
theorem refKnown_s {h : Frag} {a : Value} {vs : List View} {m cl nu : Int} (hs : SL h 13 (ViewC 4398046511104) a vs) : PSpec Tryz.prog 110 #[a, .int .i64 m, .int .i64 cl, .int .u64 nu] h (fun _ v => v = .bool (scionOf vs m cl nu).isSome) := by
  refine pspec_of (vs := [a, .int .i64 m, .int .i64 cl, .int .u64 nu]) Tryz.func110 Tryz.ntmps110 rfl rfl ?_
  (focus (refine Wr ?_; refine Tm ?_; refine On ?_; refine Wr ?_; refine Tm ?_; refine Tm ?_; refine S_c rfl rfl rfl (C_call0 (refView_s ‹_›) rfl rfl ⟨_, _, rfl, ⟨_, _, rfl, rfl, rfl⟩, rfl⟩ (cal rfl) ?_); rintro _ ⟨cv0_1, rfl, cl0_1, co0_1, ⟨xi0_1, xa0_1, po0_1, qo0_1, ps0_1, qs0_1, pc0_1, qc0_1, pn0_1, qn0_1, pm0_1, qm0_1, xw0_1, xv0_1, pf0_1, qf0_1, pr0_1, qr0_1, xe0_1, xf0_1, rfl, vo0_1, vs0_1, vc0_1, vn0_1, vm0_1, vf0_1, vr0_1⟩⟩; refine Tm ?_; refine Tx ?_; refine Tx ?_; refine Tal ?_; intro b0_2; refine Tw u0 ?_; refine Tm ?_; refine On ?_; refine WP_seq ?_; refine Wr ?_; refine Tm ?_; refine On ?_; refine WP_block ?_))
  have hl := vc0_1.le
  (refine WP_loopC (α := Nat) [9, 2, 3] (fun (k : Nat) => (vwAt vs m).scions.length - k) (fun (k : Nat) => [(11, .int .i64 (k : Int))]) (fun hh (k : Nat) => hh = h ∧ k ≤ (vwAt vs m).scions.length ∧ ((vwAt vs m).scions.drop k).find? (fun e => decide (e.client = cl) && decide (e.number = nu)) = scionOf vs m cl nu) 0 ⟨_, _, rfl, ⟨_, _, rfl, ⟨_, _, rfl, rfl, rfl⟩, rfl⟩, rfl⟩ (by repeat' first | exact trivial | refine ⟨rfl, ?_⟩) ?_ ?_)
  · exact ⟨rfl, Nat.zero_le _, by rw [scionOf_def]; rfl⟩
  rintro h1 k _ ⟨rfl, hk, ht⟩
  by_cases hlt : k < (vwAt vs m).scions.length
  · obtain ⟨e, ee⟩ := get_of hlt
    rw [find_drop ee] at ht
    (focus (refine WP_seq ?_; refine Wr ?_; refine Tm ?_; refine Tf ?_; refine Tl ?_; refine Lo m0 ?_; refine Tlen ?_; refine Tc ?_; refine On ?_; refine Wc ?_ ?_ <;> intro c2_1 <;> (first | simp [*] at c2_1; done | try simp at c2_1); refine WP_skip ?_; refine then_n ?_; refine WP_seq ?_; refine WP_block ?_; refine Wr ?_; refine Tf ?_; refine Tl ?_; refine Lo m0 ?_; refine Tm ?_; refine Ti ?_; refine Tf ?_; refine Tl ?_; refine L_elF ‹_› ‹_› ?_; rintro _ _ _ ⟨xa2_2, xb2_2, xc2_2, xd2_2, xe2_2, xf2_2, xg2_2, xh2_2, rfl⟩; refine LV_1 (ty rfl) rfl ?_; refine Tm ?_; refine Tc ?_; refine Tm ?_; refine Ugs ?_ ?_ <;> intro c2_3 <;> (first | simp [*] at c2_3; done | try simp at c2_3); (focus (refine Ugf ?_; refine Ugl ?_; refine Lo m0 ?_; refine Ugm ?_; refine S_gq rfl rfl rfl rfl rfl rfl (Q_indexS ‹_› ‹_› rfl rfl rfl (elm rfl) rfl) ?_; refine Ugf ?_; refine Ugl ?_; refine L_elF ‹_› ‹_› ?_; rintro _ _ _ ⟨xa2_4, xb2_4, xc2_4, xd2_4, xe2_4, xf2_4, xg2_4, xh2_4, rfl⟩; refine LV_1 (ty rfl) rfl ?_; refine Ugm ?_; refine Ugc ?_; refine Tp1 ?_; refine On ?_; refine Wc ?_ ?_ <;> intro c2_5 <;> (first | simp [*] at c2_5; done | try simp at c2_5); (focus (refine Wr ?_; refine Tm ?_; refine On ?_; refine WP_ret ?_; refine block_r ?_; refine then_r ?_; refine roundF_r ?_; refine block_r ?_; refine then_r ?_)); rotate_left 1; (focus (refine WP_skip ?_; refine block_n ?_; refine then_n ?_; refine R_region ?_; refine Tm ?_; refine Ta ?_; refine Tm ?_; refine OPS_nil ?_)); rotate_left 1)); rotate_left 2; (focus (refine Tn ?_; refine Tn ?_; refine Tn ?_; refine Tn ?_; refine Tn ?_; refine Tn ?_; refine Tn ?_; refine Tn ?_; refine Tp0 ?_; refine On ?_; refine cond_f rfl ?_; refine WP_skip ?_; refine block_n ?_; refine then_n ?_; refine R_region ?_; refine Tm ?_; refine Ta ?_; refine Tm ?_; refine OPS_nil ?_)); rotate_left 1))
    · have hv : scionOf vs m cl nu = some e := by rw [← ht, if_pos (by rw [decide_eq_true c2_3, decide_eq_true c2_5]; rfl)]
      refine pret (.inl rfl) rfl ⟨_, _, rfl, rfl, rfl⟩ ?_
      simp only [resOf]; rw [hv]; rfl
    · refine roundF_n (k + 1) (by omega) ⟨rfl, by omega, ?_⟩ (by repeat' first | exact sR _ | exact sA _ _ | exact sN _ | apply s2 | apply s1) (by repeat' first | exact trivial | refine ⟨rfl, ?_⟩)
      rw [← ht, if_neg (by rw [decide_eq_false c2_5]; simp)]
    · refine roundF_n (k + 1) (by omega) ⟨rfl, by omega, ?_⟩ (by repeat' first | exact sR _ | exact sA _ _ | exact sN _ | apply s2 | apply s1) (by repeat' first | exact trivial | refine ⟨rfl, ?_⟩)
      rw [← ht, if_neg (by rw [decide_eq_false c2_3]; simp)]
  have hge : k = (vwAt vs m).scions.length := by omega
  subst hge
  rw [List.drop_length] at ht
  (focus (refine WP_seq ?_; refine Wr ?_; refine Tm ?_; refine Tf ?_; refine Tl ?_; refine Lo m0 ?_; refine Tlen ?_; refine Tc ?_; refine On ?_; refine Wc ?_ ?_ <;> intro c3_1 <;> (first | simp [*] at c3_1; done | try simp at c3_1); refine WP_exit ?_; refine then_e ?_; refine roundF_e ?_; refine block_e ?_; refine then_n ?_; refine Wr ?_; refine Tm ?_; refine On ?_; refine WP_ret ?_))
  refine pret (.inl rfl) rfl ⟨_, _, rfl, rfl, rfl⟩ ?_
  simp only [resOf]; rw [← ht]; rfl
theorem refScion_s {h : Frag} {a : Value} {vs : List View} {m cl nu : Int} (hs : SL h 13 (ViewC 4398046511104) a vs) : PSpec Tryz.prog 111 #[a, .int .i64 m, .int .i64 cl, .int .u64 nu] h (fun _ v => v = .agg (idc ((scionOf vs m cl nu).getD zeroS).id).toArray) := by
  refine pspec_of (vs := [a, .int .i64 m, .int .i64 cl, .int .u64 nu]) Tryz.func111 Tryz.ntmps111 rfl rfl ?_
  (focus (refine Wr ?_; refine Tal ?_; intro b0_1; refine On ?_; refine Wr ?_; refine Tm ?_; refine Tm ?_; refine S_c rfl rfl rfl (C_call0 (refView_s ‹_›) rfl rfl ⟨_, _, rfl, ⟨_, _, rfl, rfl, rfl⟩, rfl⟩ (cal rfl) ?_); rintro _ ⟨cv0_2, rfl, cl0_2, co0_2, ⟨xi0_2, xa0_2, po0_2, qo0_2, ps0_2, qs0_2, pc0_2, qc0_2, pn0_2, qn0_2, pm0_2, qm0_2, xw0_2, xv0_2, pf0_2, qf0_2, pr0_2, qr0_2, xe0_2, xf0_2, rfl, vo0_2, vs0_2, vc0_2, vn0_2, vm0_2, vf0_2, vr0_2⟩⟩; refine Tm ?_; refine Tx ?_; refine Tx ?_; refine Tal ?_; intro b0_3; refine Tw u0 ?_; refine Tm ?_; refine On ?_; refine WP_seq ?_; refine Wr ?_; refine Tm ?_; refine On ?_; refine WP_block ?_))
  have hl := vc0_2.le
  (refine WP_loopC (α := Nat) [9, 8, 2, 3] (fun (k : Nat) => (vwAt vs m).scions.length - k) (fun (k : Nat) => [(11, .int .i64 (k : Int))]) (fun hh (k : Nat) => hh = h ∧ k ≤ (vwAt vs m).scions.length ∧ ((vwAt vs m).scions.drop k).find? (fun e => decide (e.client = cl) && decide (e.number = nu)) = scionOf vs m cl nu) 0 ⟨_, _, rfl, ⟨_, _, rfl, ⟨_, _, rfl, ⟨_, _, rfl, rfl, rfl⟩, rfl⟩, rfl⟩, rfl⟩ (by repeat' first | exact trivial | refine ⟨rfl, ?_⟩) ?_ ?_)
  · exact ⟨rfl, Nat.zero_le _, by rw [scionOf_def]; rfl⟩
  rintro h1 k _ ⟨rfl, hk, ht⟩
  by_cases hlt : k < (vwAt vs m).scions.length
  · obtain ⟨e, ee⟩ := get_of hlt
    rw [find_drop ee] at ht
    (focus (refine WP_seq ?_; refine Wr ?_; refine Tm ?_; refine Tf ?_; refine Tl ?_; refine Lo m0 ?_; refine Tlen ?_; refine Tc ?_; refine On ?_; refine Wc ?_ ?_ <;> intro c2_1 <;> (first | simp [*] at c2_1; done | try simp at c2_1); refine WP_skip ?_; refine then_n ?_; refine WP_seq ?_; refine WP_block ?_; refine Wr ?_; refine Tf ?_; refine Tl ?_; refine Lo m0 ?_; refine Tm ?_; refine Ti ?_; refine Tf ?_; refine Tl ?_; refine L_elF ‹_› ‹_› ?_; rintro _ _ _ ⟨xa2_2, xb2_2, xc2_2, xd2_2, xe2_2, xf2_2, xg2_2, xh2_2, rfl⟩; refine LV_1 (ty rfl) rfl ?_; refine Tm ?_; refine Tc ?_; refine Tm ?_; refine Ugs ?_ ?_ <;> intro c2_3 <;> (first | simp [*] at c2_3; done | try simp at c2_3); (focus (refine Ugf ?_; refine Ugl ?_; refine Lo m0 ?_; refine Ugm ?_; refine S_gq rfl rfl rfl rfl rfl rfl (Q_indexS ‹_› ‹_› rfl rfl rfl (elm rfl) rfl) ?_; refine Ugf ?_; refine Ugl ?_; refine L_elF ‹_› ‹_› ?_; rintro _ _ _ ⟨xa2_4, xb2_4, xc2_4, xd2_4, xe2_4, xf2_4, xg2_4, xh2_4, rfl⟩; refine LV_1 (ty rfl) rfl ?_; refine Ugm ?_; refine Ugc ?_; refine Tp1 ?_; refine On ?_; refine Wc ?_ ?_ <;> intro c2_5 <;> (first | simp [*] at c2_5; done | try simp at c2_5); (focus (refine Wr ?_; refine Tf ?_; refine Tl ?_; refine Lo m0 ?_; refine Tm ?_; refine Ti ?_; refine Tf ?_; refine Tl ?_; refine L_elF ‹_› ‹_› ?_; rintro _ _ _ ⟨xa2_6, xb2_6, xc2_6, xd2_6, xe2_6, xf2_6, xg2_6, xh2_6, rfl⟩; refine LV_a (ty rfl) rfl ?_; refine Tw u1 ?_; refine On ?_; refine WP_ret ?_; refine block_r ?_; refine then_r ?_; refine roundF_r ?_; refine block_r ?_; refine then_r ?_)); rotate_left 1; (focus (refine WP_skip ?_; refine block_n ?_; refine then_n ?_; refine R_region ?_; refine Tm ?_; refine Ta ?_; refine Tm ?_; refine OPS_nil ?_)); rotate_left 1)); rotate_left 2; (focus (refine Tn ?_; refine Tn ?_; refine Tn ?_; refine Tn ?_; refine Tn ?_; refine Tn ?_; refine Tn ?_; refine Tn ?_; refine Tp0 ?_; refine On ?_; refine cond_f rfl ?_; refine WP_skip ?_; refine block_n ?_; refine then_n ?_; refine R_region ?_; refine Tm ?_; refine Ta ?_; refine Tm ?_; refine OPS_nil ?_)); rotate_left 1))
    · have hv : scionOf vs m cl nu = some e := by rw [← ht, if_pos (by rw [decide_eq_true c2_3, decide_eq_true c2_5]; rfl)]
      refine pret (.inl rfl) rfl ⟨_, _, _, rfl, Loads_agg (Rd.own m1) (ty rfl) rfl, rfl, rfl⟩ ?_
      rw [hv]; rfl
    · refine roundF_n (k + 1) (by omega) ⟨rfl, by omega, ?_⟩ (by repeat' first | exact sR _ | exact sA _ _ | exact sN _ | apply s2 | apply s1) (by repeat' first | exact trivial | refine ⟨rfl, ?_⟩)
      rw [← ht, if_neg (by rw [decide_eq_false c2_5]; simp)]
    · refine roundF_n (k + 1) (by omega) ⟨rfl, by omega, ?_⟩ (by repeat' first | exact sR _ | exact sA _ _ | exact sN _ | apply s2 | apply s1) (by repeat' first | exact trivial | refine ⟨rfl, ?_⟩)
      rw [← ht, if_neg (by rw [decide_eq_false c2_3]; simp)]
  have hge : k = (vwAt vs m).scions.length := by omega
  subst hge
  rw [List.drop_length] at ht
  (focus (refine WP_seq ?_; refine Wr ?_; refine Tm ?_; refine Tf ?_; refine Tl ?_; refine Lo m0 ?_; refine Tlen ?_; refine Tc ?_; refine On ?_; refine Wc ?_ ?_ <;> intro c3_1 <;> (first | simp [*] at c3_1; done | try simp at c3_1); refine WP_exit ?_; refine then_e ?_; refine roundF_e ?_; refine block_e ?_; refine then_n ?_; refine Wr ?_; refine S_q rfl rfl rfl (Q_build rfl (by decide +kernel) (zer rfl) rfl rfl) ?_; refine Tw u1 ?_; refine On ?_; refine WP_ret ?_))
  refine pret (.inl rfl) rfl ⟨_, _, _, rfl, Loads_agg (Rd.own m1) (ty rfl) rfl, rfl, rfl⟩ ?_
  rw [← ht]; rfl
end Go.Proofs.YtfhoecgiahpddaaGreat
/-
  CONTRACTS: the reference's numbers and references in flights (refmeshref55.Numbered, RefID, value, refs).
-/
set_option linter.all false
namespace Go.Proofs.YtfhoecgiahpddaaGreat
open Go.Mesh Go.RowKit
set_option maxRecDepth 100000
set_option linter.unusedVariables false
set_option maxHeartbeats 4000000
attribute [local irreducible] WP OPS ANY ANYo LG LV FSpec PSpec QOP OPc OPw thenQ blockQ roundQ roundF retQ retM Rd At SLB OS cmpI orI cmpID namedB valB nodeB kindB validG valAux idxI findG zeroV viewOf vwAt idxOf recv flyB scionOf moveOf numberedOf idOf valueOf mget mput localB carriedB msgB sizesB smallV fewB stubOf followF followOf flOf flightsOf flPre setL minusL compactL putI mergeN insN insAll unionR NMap Coll retN bodyS GMap Dfs refsV refsOf reachL movedOf movedG graphParts graphR isMove
theorem numberedOf_scion {vs : List View} {frm to nu : Int} {e : ScionE} (h : scionOf vs to frm nu = some e) : numberedOf vs frm to nu = e.id := by rw [numberedOf, h]
theorem numberedOf_move {vs : List View} {frm to nu : Int} (h : scionOf vs to frm nu = none) {x : Flight} (hx : moveOf vs frm to nu = some x) : numberedOf vs frm to nu = x.msg.parcel.id := by rw [numberedOf, h]; simp only [hx]
theorem numberedOf_none {vs : List View} {frm to nu : Int} (h : scionOf vs to frm nu = none) (hx : moveOf vs frm to nu = none) : numberedOf vs frm to nu = (0, 0) := by rw [numberedOf, h]; simp only [hx]
theorem moveOf_def (vs : List View) (frm to nu : Int) : moveOf vs frm to nu = (vwAt vs frm).flights.find? fun x => decide (x.to = to) && (decide (x.msg.kind = 1) && (decide (x.msg.parcel.number = nu) && flyB vs (vwAt vs frm) x)) := by rw [moveOf]
theorem refNumbered_s {h : Frag} {a : Value} {vs : List View} {frm to nu : Int} (hs : SL h 13 (ViewC 4398046511104) a vs) : PSpec Tryz.prog 68 #[a, .int .i64 frm, .int .i64 to, .int .u64 nu] h (fun _ v => v = .agg (idc (numberedOf vs frm to nu)).toArray) := by
  refine pspec_of (vs := [a, .int .i64 frm, .int .i64 to, .int .u64 nu]) Tryz.func68 Tryz.ntmps68 rfl rfl ?_
  (focus (refine Wr ?_; refine Tal ?_; intro b0_1; refine On ?_; refine WP_seq ?_; refine Wr ?_; refine Tm ?_; refine Tm ?_; refine Tm ?_; refine Tm ?_; refine S_c rfl rfl rfl (C_callv (refKnown_s ‹_›) rfl rfl ⟨_, _, rfl, ⟨_, _, rfl, ⟨_, _, rfl, ⟨_, _, rfl, rfl, rfl⟩, rfl⟩, rfl⟩, rfl⟩ (cal rfl) ?_); refine On ?_; refine Wc ?_ ?_ <;> intro c0_2 <;> (first | simp [*] at c0_2; done | try simp at c0_2); (focus (refine Wr ?_; refine Tm ?_; refine Tm ?_; refine Tm ?_; refine Tm ?_; refine S_c rfl rfl rfl (C_callv (refScion_s ‹_›) rfl rfl ⟨_, _, rfl, ⟨_, _, rfl, ⟨_, _, rfl, ⟨_, _, rfl, rfl, rfl⟩, rfl⟩, rfl⟩, rfl⟩ (cal rfl) ?_); refine Tw u0 ?_; refine On ?_; refine WP_ret ?_; refine then_r ?_)); rotate_left 1; (focus (refine WP_skip ?_; refine then_n ?_; refine Wr ?_; refine Tm ?_; refine Tm ?_; refine S_c rfl rfl rfl (C_call0 (refView_s ‹_›) rfl rfl ⟨_, _, rfl, ⟨_, _, rfl, rfl, rfl⟩, rfl⟩ (cal rfl) ?_); rintro _ ⟨cv0_3, rfl, cl0_3, co0_3, ⟨xi0_3, xa0_3, po0_3, qo0_3, ps0_3, qs0_3, pc0_3, qc0_3, pn0_3, qn0_3, pm0_3, qm0_3, xw0_3, xv0_3, pf0_3, qf0_3, pr0_3, qr0_3, xe0_3, xf0_3, rfl, vo0_3, vs0_3, vc0_3, vn0_3, vm0_3, vf0_3, vr0_3⟩⟩; refine Tm ?_; refine Tx ?_; refine Tx ?_; refine Tal ?_; intro b0_4; refine Tw u0 ?_; refine Tm ?_; refine On ?_; refine WP_seq ?_; refine Wr ?_; refine Tm ?_; refine On ?_; refine WP_block ?_)); rotate_left 1))
  · obtain ⟨e, he⟩ := Option.isSome_iff_exists.1 c0_2
    refine pret (.inl rfl) rfl ⟨_, _, _, rfl, Loads_agg (Rd.own m0) (ty rfl) rfl, rfl, rfl⟩ ?_
    rw [numberedOf_scion he, he]; rfl
  have hsn : scionOf vs to frm nu = none := by simpa using c0_2
  have hl := vf0_3.le
  (refine WP_loopC (α := Nat) [9, 8, 0, 2, 3] (fun (k : Nat) => (vwAt vs frm).flights.length - k) (fun (k : Nat) => [(11, .int .i64 (k : Int))]) (fun hh (k : Nat) => hh = h ∧ k ≤ (vwAt vs frm).flights.length ∧ ((vwAt vs frm).flights.drop k).find? (fun x => decide (x.to = to) && (decide (x.msg.kind = 1) && (decide (x.msg.parcel.number = nu) && flyB vs (vwAt vs frm) x))) = moveOf vs frm to nu) 0 ⟨_, _, rfl, ⟨_, _, rfl, ⟨_, _, rfl, ⟨_, _, rfl, ⟨_, _, rfl, rfl, rfl⟩, rfl⟩, rfl⟩, rfl⟩, rfl⟩ (by repeat' first | exact trivial | refine ⟨rfl, ?_⟩) ?_ ?_)
  · exact ⟨rfl, Nat.zero_le _, by rw [moveOf_def]; rfl⟩
  rintro h1 k _ ⟨rfl, hk, ht⟩
  by_cases hlt : k < (vwAt vs frm).flights.length
  · obtain ⟨x, ex⟩ := get_of hlt
    rw [find_drop ex] at ht
    (focus (refine WP_seq ?_; refine Wr ?_; refine Tm ?_; refine Tf ?_; refine Tl ?_; refine Lo m0 ?_; refine Tlen ?_; refine Tc ?_; refine On ?_; refine Wc ?_ ?_ <;> intro c2_1 <;> (first | simp [*] at c2_1; done | try simp at c2_1); refine WP_skip ?_; refine then_n ?_; refine WP_seq ?_; refine WP_block ?_; refine Wr ?_; refine Tf ?_; refine Tl ?_; refine Lo m0 ?_; refine Tm ?_; refine Ti ?_; refine Tl ?_; refine Le ?_; rintro _ _ _ ⟨xa2_2, xb2_2, xc2_2, xd2_2, xe2_2, pa2_2, qa2_2, pf2_2, qf2_2, pm2_2, qm2_2, xw2_2, y12_2, y22_2, y32_2, y42_2, y52_2, y62_2, y72_2, y82_2, y92_2, y102_2, y112_2, y122_2, y132_2, y142_2, y152_2, rfl, ha2_2, hf2_2, hm2_2⟩; refine Tal ?_; intro b2_3; refine Tw u0 ?_; refine On ?_; refine Wr ?_; refine Tf ?_; refine Tl ?_; refine Lo m0 ?_; refine Tm ?_; refine Tc ?_; refine Tm ?_; refine Ugs ?_ ?_ <;> intro c2_4 <;> (first | simp [*] at c2_4; done | try simp at c2_4); (focus (refine Ugf ?_; refine Ugf ?_; refine Ugl ?_; refine L_fld2 (Rd.own m0) ?_; refine LV_1 (ty rfl) rfl ?_; refine Ugc ?_; refine Tp1 ?_; refine Tm ?_; refine Ugs ?_ ?_ <;> intro c2_5 <;> (first | simp [*] at c2_5; done | try simp at c2_5); (focus (refine Ugf ?_; refine Ugf ?_; refine Ugf ?_; refine Ugl ?_; refine L_fld3 (Rd.own m0) ?_; refine LV_1 (ty rfl) rfl ?_; refine Ugm ?_; refine Ugc ?_; refine Tp1 ?_; refine Tm ?_; refine Ugs ?_ ?_ <;> intro c2_6 <;> (first | simp [*] at c2_6; done | try simp at c2_6); (focus (refine Ugm ?_; refine Ugl ?_; refine Lg m1 ?_; refine Ugl ?_; refine Lg m0 ?_; refine S_gc rfl rfl rfl rfl rfl rfl (C_callv (refFlying_s ‹_› ⟨by assumption, _, _, _, _, _, _, _, _, _, _, _, _, _, _, _, _, _, _, _, rfl, by assumption, by assumption, by assumption, by assumption, by assumption, by assumption, by assumption⟩ ⟨_, _, _, _, _, _, _, _, _, _, _, _, _, _, _, _, _, _, _, _, _, _, _, _, _, _, _, rfl, by assumption, by assumption, by assumption⟩) rfl rfl ⟨_, _, rfl, ⟨_, _, rfl, ⟨_, _, rfl, rfl, rfl⟩, rfl⟩, rfl⟩ (cal rfl) ?_); refine Tp1 ?_; refine On ?_; refine Wc ?_ ?_ <;> intro c2_7 <;> (first | simp [*] at c2_7; done | try simp at c2_7); (focus (refine Wr ?_; refine Tf ?_; refine Tf ?_; refine Tf ?_; refine Tl ?_; refine L_fld3 (Rd.own m0) ?_; refine LV_a (ty rfl) rfl ?_; refine Tw u2 ?_; refine On ?_; refine WP_ret ?_; refine block_r ?_; refine then_r ?_; refine roundF_r ?_; refine block_r ?_; refine then_r ?_)); rotate_left 1; (focus (refine WP_skip ?_; refine block_n ?_; refine then_n ?_; refine R_region ?_; refine Tm ?_; refine Ta ?_; refine Tm ?_; refine OPS_nil ?_)); rotate_left 1)); rotate_left 2; (focus (refine Tn ?_; refine Tn ?_; refine Tn ?_; refine Tn ?_; refine Tp0 ?_; refine On ?_; refine cond_f rfl ?_; refine WP_skip ?_; refine block_n ?_; refine then_n ?_; refine R_region ?_; refine Tm ?_; refine Ta ?_; refine Tm ?_; refine OPS_nil ?_)); rotate_left 1)); rotate_left 3; (focus (refine Tn ?_; refine Tn ?_; refine Tn ?_; refine Tn ?_; refine Tn ?_; refine Tn ?_; refine Tp0 ?_; refine Tm ?_; refine Tn ?_; refine Tn ?_; refine Tn ?_; refine Tn ?_; refine Tp0 ?_; refine On ?_; refine cond_f rfl ?_; refine WP_skip ?_; refine block_n ?_; refine then_n ?_; refine R_region ?_; refine Tm ?_; refine Ta ?_; refine Tm ?_; refine OPS_nil ?_)); rotate_left 1)); rotate_left 4; (focus (refine Tn ?_; refine Tn ?_; refine Tn ?_; refine Tn ?_; refine Tp0 ?_; refine Tm ?_; refine Tn ?_; refine Tn ?_; refine Tn ?_; refine Tn ?_; refine Tn ?_; refine Tn ?_; refine Tp0 ?_; refine Tm ?_; refine Tn ?_; refine Tn ?_; refine Tn ?_; refine Tn ?_; refine Tp0 ?_; refine On ?_; refine cond_f rfl ?_; refine WP_skip ?_; refine block_n ?_; refine then_n ?_; refine R_region ?_; refine Tm ?_; refine Ta ?_; refine Tm ?_; refine OPS_nil ?_)); rotate_left 1))
    · have hv : moveOf vs frm to nu = some x := by rw [← ht, if_pos (by rw [decide_eq_true c2_4, decide_eq_true c2_5, decide_eq_true c2_6, c2_7]; rfl)]
      refine pret (.inl rfl) rfl ⟨_, _, _, rfl, Loads_agg (Rd.own m2) (ty rfl) rfl, rfl, rfl⟩ ?_
      rw [numberedOf_move hsn hv]; rfl
    · refine roundF_n (k + 1) (by omega) ⟨rfl, by omega, ?_⟩ (by repeat' first | exact sR _ | exact sA _ _ | exact sN _ | apply s2 | apply s1) (by repeat' first | exact trivial | refine ⟨rfl, ?_⟩)
      rw [← ht, if_neg (by rw [c2_7]; simp)]
    · refine roundF_n (k + 1) (by omega) ⟨rfl, by omega, ?_⟩ (by repeat' first | exact sR _ | exact sA _ _ | exact sN _ | apply s2 | apply s1) (by repeat' first | exact trivial | refine ⟨rfl, ?_⟩)
      rw [← ht, if_neg (by rw [decide_eq_false c2_6]; simp)]
    · refine roundF_n (k + 1) (by omega) ⟨rfl, by omega, ?_⟩ (by repeat' first | exact sR _ | exact sA _ _ | exact sN _ | apply s2 | apply s1) (by repeat' first | exact trivial | refine ⟨rfl, ?_⟩)
      rw [← ht, if_neg (by rw [decide_eq_false c2_5]; simp)]
    · refine roundF_n (k + 1) (by omega) ⟨rfl, by omega, ?_⟩ (by repeat' first | exact sR _ | exact sA _ _ | exact sN _ | apply s2 | apply s1) (by repeat' first | exact trivial | refine ⟨rfl, ?_⟩)
      rw [← ht, if_neg (by rw [decide_eq_false c2_4]; simp)]
  have hge : k = (vwAt vs frm).flights.length := by omega
  subst hge
  rw [List.drop_length] at ht
  (focus (refine WP_seq ?_; refine Wr ?_; refine Tm ?_; refine Tf ?_; refine Tl ?_; refine Lo m0 ?_; refine Tlen ?_; refine Tc ?_; refine On ?_; refine Wc ?_ ?_ <;> intro c3_1 <;> (first | simp [*] at c3_1; done | try simp at c3_1); refine WP_exit ?_; refine then_e ?_; refine roundF_e ?_; refine block_e ?_; refine then_n ?_; refine Wr ?_; refine S_q rfl rfl rfl (Q_build rfl (by decide +kernel) (zer rfl) rfl rfl) ?_; refine Tw u1 ?_; refine On ?_; refine WP_ret ?_))
  refine pret (.inl rfl) rfl ⟨_, _, _, rfl, Loads_agg (Rd.own m1) (ty rfl) rfl, rfl, rfl⟩ ?_
  rw [numberedOf_none hsn ht.symm]; rfl
theorem refID_s {h : Frag} {a : Value} {vs : List View} {frm to : Int} {r : Ref} (hs : SL h 13 (ViewC 4398046511104) a vs) : PSpec Tryz.prog 98 #[a, .int .i64 frm, .int .i64 to, .agg (rfc r).toArray] h (fun _ v => v = .agg (idc (idOf vs frm to r)).toArray) := by
  refine pspec_of (vs := [a, .int .i64 frm, .int .i64 to, .agg (rfc r).toArray]) Tryz.func98 Tryz.ntmps98 rfl rfl ?_
  (focus (refine Wr ?_; refine Tbx ?_; intro b0_1; refine Tal ?_; intro b0_2; refine On ?_; refine WP_seq ?_; refine Wr ?_; refine Tf ?_; refine Tl ?_; refine Lo m1 ?_; refine On ?_; refine WP_block ?_; refine Wr ?_; refine Tc ?_; refine Tm ?_; refine On ?_; refine Wc ?_ ?_ <;> intro c0_3 <;> (first | simp [*] at c0_3; done | try simp at c0_3); (focus (refine Wr ?_; refine Tf ?_; refine Tl ?_; refine L_sub (Rd.own m1) (ty rfl) rfl ?_; refine Tw u0 ?_; refine On ?_; refine WP_ret ?_; refine block_r ?_; refine then_r ?_)); rotate_left 1; (focus (refine Wr ?_; refine Tc ?_; refine Tm ?_; refine On ?_; refine Wc ?_ ?_ <;> intro c0_4 <;> (first | simp [*] at c0_4; done | try simp at c0_4); (focus (refine Wr ?_; refine Tm ?_; refine Tm ?_; refine Tm ?_; refine Tf ?_; refine Tl ?_; refine Lo m1 ?_; refine S_c rfl rfl rfl (C_callv (refNumbered_s ‹_›) rfl rfl ⟨_, _, rfl, ⟨_, _, rfl, ⟨_, _, rfl, ⟨_, _, rfl, rfl, rfl⟩, rfl⟩, rfl⟩, rfl⟩ (cal rfl) ?_); refine Tw u0 ?_; refine On ?_; refine WP_ret ?_; refine block_r ?_; refine then_r ?_)); rotate_left 1; (focus (refine WP_skip ?_; refine block_n ?_; refine then_n ?_; refine Wr ?_; refine S_q rfl rfl rfl (Q_build rfl (by decide +kernel) (zer rfl) rfl rfl) ?_; refine Tw u0 ?_; refine On ?_; refine WP_ret ?_)); rotate_left 1)); rotate_left 2))
  all_goals refine pret (.inl rfl) rfl ⟨_, _, _, rfl, Loads_agg (Rd.own m0) (ty rfl) rfl, rfl, rfl⟩ ?_
  all_goals (simp [resOf, idOf, *]; try rfl)
theorem refValue_s {h : Frag} {a : Value} {vs : List View} {frm to : Int} {r : Ref} (hs : SL h 13 (ViewC 4398046511104) a vs) : PSpec Tryz.prog 93 #[a, .int .i64 frm, .int .i64 to, .agg (rfc r).toArray] h (fun _ v => v = .agg (vlc (valueOf vs frm to r)).toArray) := by
  refine pspec_of (vs := [a, .int .i64 frm, .int .i64 to, .agg (rfc r).toArray]) Tryz.func93 Tryz.ntmps93 rfl rfl ?_
  (focus (refine Wr ?_; refine Tbx ?_; intro b0_1; refine Tal ?_; intro b0_2; refine On ?_; refine WP_seq ?_; refine Wr ?_; refine Tf ?_; refine Tl ?_; refine Lo m1 ?_; refine Tc ?_; refine On ?_; refine Wc ?_ ?_ <;> intro c0_3 <;> (first | simp [*] at c0_3; done | try simp at c0_3); (focus (refine Wr ?_; refine Tf ?_; refine Tl ?_; refine Lo m1 ?_; refine S_q rfl rfl rfl (Q_build rfl (by decide +kernel) (zer rfl) ⟨_, _, _, _, _, _, _, rfl, fld rfl rfl, ty rfl, rfl, rfl, ⟨_, _, _, _, _, _, _, rfl, fld rfl rfl, ty rfl, rfl, rfl, rfl, rfl⟩, rfl⟩ rfl) ?_; refine Tw u0 ?_; refine On ?_; refine WP_ret ?_; refine then_r ?_)); rotate_left 1; (focus (refine WP_skip ?_; refine then_n ?_; refine WP_seq ?_; refine Wr ?_; refine Tm ?_; refine Tm ?_; refine Tm ?_; refine Tl ?_; refine Lg m1 ?_; refine S_c rfl rfl rfl (C_callv (refID_s ‹_›) rfl rfl ⟨_, _, rfl, ⟨_, _, rfl, ⟨_, _, rfl, ⟨_, _, rfl, rfl, rfl⟩, rfl⟩, rfl⟩, rfl⟩ (cal rfl) ?_); refine Tal ?_; intro b0_4; refine Tw u0 ?_; refine On ?_; refine Wr ?_; refine Tl ?_; refine Lg m0 ?_; refine S_q rfl rfl rfl (Q_build rfl (by decide +kernel) (zer rfl) rfl rfl) ?_; refine S_q rfl rfl rfl (Q_neI eqID rfl rfl rfl rfl rfl) ?_; refine On ?_; refine Wc ?_ ?_ <;> intro c0_5 <;> (first | simp [*] at c0_5; done | try simp at c0_5); (focus (refine Wr ?_; refine Tl ?_; refine Lg m0 ?_; refine S_q rfl rfl rfl (Q_build rfl (by decide +kernel) (zer rfl) ⟨_, _, _, _, _, _, _, rfl, fld rfl rfl, ty rfl, rfl, rfl, ⟨_, _, _, _, _, _, _, rfl, fld rfl rfl, ty rfl, rfl, rfl, rfl, rfl⟩, rfl⟩ rfl) ?_; refine Tw u1 ?_; refine On ?_; refine WP_ret ?_; refine then_r ?_)); rotate_left 1; (focus (refine WP_skip ?_; refine then_n ?_; refine Wr ?_; refine S_q rfl rfl rfl (Q_build rfl (by decide +kernel) (zer rfl) rfl rfl) ?_; refine Tw u1 ?_; refine On ?_; refine WP_ret ?_)); rotate_left 1)); rotate_left 2))
  · refine pret (.inl rfl) rfl ⟨_, _, _, rfl, Loads_agg (Rd.own m0) (ty rfl) rfl, rfl, rfl⟩ ?_
    rw [valueOf, if_pos c0_3]; rfl
  · refine pret (.inl rfl) rfl ⟨_, _, _, rfl, Loads_agg (Rd.own m1) (ty rfl) rfl, rfl, rfl⟩ ?_
    rw [valueOf, if_neg c0_3]; generalize idOf vs frm to r = i at *; obtain ⟨i1, i2⟩ := i
    rw [if_pos (by rintro e; cases e; simp at c0_5)]; rfl
  · refine pret (.inl rfl) rfl ⟨_, _, _, rfl, Loads_agg (Rd.own m1) (ty rfl) rfl, rfl, rfl⟩ ?_
    rw [valueOf, if_neg c0_3]; generalize idOf vs frm to r = i at *; obtain ⟨i1, i2⟩ := i
    obtain ⟨h1, h2⟩ := c0_5
    simp only at h1 h2
    subst h1; subst h2
    rw [if_neg (by simp)]; rfl
end Go.Proofs.YtfhoecgiahpddaaGreat
/-
  CONTRACTS: observer.Roots, observer.Reachable.
-/
set_option linter.all false
namespace Go.Proofs.YtfhoecgiahpddaaGreat
open Go.Mesh Go.RowKit
set_option maxRecDepth 100000
set_option linter.unusedVariables false
set_option maxHeartbeats 4000000
attribute [local irreducible] WP OPS ANY ANYo LG LV FSpec PSpec QOP OPc OPw thenQ blockQ roundQ roundF retQ retM Rd At SLB OS cmpI orI cmpID namedB valB nodeB kindB validG valAux idxI findG zeroV viewOf vwAt idxOf recv flyB scionOf moveOf numberedOf idOf valueOf mget mput localB carriedB stubOf followF followOf flOf flightsOf flPre setL minusL compactL putI mergeN insN insAll unionR NMap Coll retN bodyS GMap Dfs refsV refsOf reachL movedOf movedG graphParts graphR isMove
/-- the roots of a flight -/
def flightIDs (vs : List View) (i : View × Flight) : List ID :=
  if i.2.msg.kind = 0 then numberedOf vs i.1.machine i.2.to i.2.msg.number :: i.2.msg.args.map (idOf vs i.1.machine i.2.to)
  else if i.2.msg.kind = 17 then [idOf vs i.1.machine i.2.to i.2.msg.ref]
  else if i.2.msg.kind = 1 then i.2.msg.parcel.mail.flatMap fun l => i.2.msg.parcel.id :: l.map (idOf vs i.1.machine i.2.to)
  else []
def mailIDs (m : MailE) : List ID := m.to :: refsV m.args
def viewIDs (v : View) : List ID := v.names ++ v.mail.flatMap mailIDs
def rawRoots (vs : List View) : List ID := vs.flatMap viewIDs ++ (flightsOf vs).flatMap (flightIDs vs)
def rootsR (vs : List View) : List ID := minusL (setL (rawRoots vs)) [(0, 0)]
theorem flightIDs_len {vs : List View} (s : Small vs) {i : View × Flight} (hi : i ∈ flightsOf vs) : (flightIDs vs i).length ≤ 28 := by
  obtain ⟨hv, hx⟩ := flightsOf_mem hi
  have h1 := s.letter _ hv _ hx
  have h2 := s.pmail _ hv _ hx
  have h3 := flatMap_le (fun l : List Ref => i.2.msg.parcel.id :: l.map (idOf vs i.1.machine i.2.to)) 7 i.2.msg.parcel.mail (fun m hm => by
    have := s.pargs _ hv _ hx m hm
    simp; omega)
  unfold flightIDs
  split
  · simp; omega
  split
  · simp
  split
  · omega
  · simp
theorem viewIDs_len {vs : List View} (s : Small vs) {v : View} (hv : v ∈ vs) : (viewIDs v).length ≤ 48 := by
  have h1 := s.names v hv
  have h2 := s.mail v hv
  have h3 := flatMap_le mailIDs 7 v.mail (fun m hm => by
    have := s.args v hv m hm
    have h4 := refsV_length m.args
    simp [mailIDs]; omega)
  simp only [viewIDs, List.length_append]; omega
theorem pre_len {vs : List View} (s : Small vs) {pre : List (View × Flight)} (h : pre <+: flightsOf vs) : (vs.flatMap viewIDs ++ pre.flatMap (flightIDs vs)).length ≤ 2000 := by
  have h1 := flatMap_le viewIDs 48 vs fun v hv => viewIDs_len s hv
  have h2 := flatMap_le (flightIDs vs) 28 pre fun i hi => flightIDs_len s (h.subset hi)
  have h3 := h.length_le
  have h4 := s.fl
  have h5 := s.len
  simp only [List.length_append]; omega
theorem raw_len {vs : List View} (s : Small vs) : (rawRoots vs).length ≤ 2000 := pre_len s (List.prefix_refl _)
theorem roots_len {vs : List View} (s : Small vs) : (rootsR vs).length ≤ 2000 := by
  have h1 := setL_length (setL (rawRoots vs))
  have h2 := setL_length (rawRoots vs)
  have h3 := raw_len s
  rw [rootsR, minusL]
  exact Nat.le_trans (List.length_filter_le _ _) (by omega)
theorem flatMap_take {α β : Type} (f : α → List β) {l : List α} {k : Nat} {x : α} (hx : l[k]? = some x) : (l.take (k + 1)).flatMap f = (l.take k).flatMap f ++ f x := by
  simp [List.take_add_one, hx]
theorem map_take {α β : Type} (f : α → β) {l : List α} {k : Nat} {x : α} (hx : l[k]? = some x) : (l.take (k + 1)).map f = (l.take k).map f ++ [f x] := by
  simp [List.take_add_one, hx]
theorem flatMap_take_len {vs : List View} (s : Small vs) (k : Nat) : ((vs.take k).flatMap viewIDs).length ≤ 240 := by
  have h1 := flatMap_le viewIDs 48 (vs.take k) fun v hv => viewIDs_len s (List.mem_of_mem_take hv)
  have h2 : (vs.take k).length ≤ 5 := by rw [List.length_take]; have := s.len; omega
  omega
attribute [local irreducible] flightIDs mailIDs viewIDs rawRoots rootsR
theorem rootsAdd_s {h : Frag} {p : Option Addr} {c : Nat} {out : List ID} {M : Hp} {b4 b3 b13 b14 : Nat} {cs us ws : List Value} {vs : List View} {mf mt : Int} {l : Value} {rs : List Ref}
    (h3 : At h b3 0 cs) (hf : FleetC h vs cs) (h13 : At h b13 0 (.int .i64 mf :: us)) (h14 : At h b14 0 (.int .i64 mt :: ws)) (hl : SL h 8 RefC l rs) (ho : OS h 35 2 IDC (.slice p out.length c) out M) (hb : out.length + rs.length ≤ 1000000) :
    FSpec Tryz.prog 38 #[l, ptr b4 0, ptr b3 0, ptr b13 0, ptr b14 0] h ((b4, cells [.slice p out.length c] 31) :: M)
      (fun h' L' _ => h' = h ∧ ∃ p' c' M', L' = (b4, cells [.slice p' (out ++ rs.map (idOf vs mf mt)).length c'] 31) :: M' ∧ OS h 35 2 IDC (.slice p' (out ++ rs.map (idOf vs mf mt)).length c') (out ++ rs.map (idOf vs mf mt)) M') := by
  obtain ⟨pl, cl, rfl⟩ := hl.slice
  obtain ⟨pf, qf, mb, ms, rfl, fv, fm, fq⟩ := hf
  have hf : FleetC h vs [.slice pf vs.length qf, .map (some mb)] := ⟨pf, qf, mb, ms, rfl, fv, fm, fq⟩
  clear fq fm fv
  rw [show (b4, cells [Value.slice p out.length c] 31) :: M = (b4, cells [Value.slice p out.length c] 31) :: (M ++ []) by rw [List.append_nil]]
  refine spec_of (vs := [.slice pl rs.length cl, ptr b4 0, ptr b3 0, ptr b13 0, ptr b14 0]) Tryz.func38 Tryz.ntmps38 rfl rfl rfl ?_
  (focus (refine Wr ?_; refine Tm ?_; refine Tlen ?_; refine Tm ?_; refine On ?_; refine WP_block ?_))
  (refine WP_loopF (α := Nat × List ID × Option Addr × Nat × Hp) [9, 8, 1, 2, 3, 4] (fun (s : Nat × List ID × Option Addr × Nat × Hp) => rs.length - s.1) (fun (s : Nat × List ID × Option Addr × Nat × Hp) => (b4, cells [.slice s.2.2.1 s.2.1.length s.2.2.2.1] 31) :: (s.2.2.2.2 ++ [])) (fun (s : Nat × List ID × Option Addr × Nat × Hp) => [(10, .int .i64 (s.1 : Int))]) (fun hh (s : Nat × List ID × Option Addr × Nat × Hp) => hh = h ∧ s.1 ≤ rs.length ∧ s.2.1 = out ++ (rs.take s.1).map (idOf vs mf mt) ∧ OS h 35 2 IDC (.slice s.2.2.1 s.2.1.length s.2.2.2.1) s.2.1 s.2.2.2.2) (0, out, p, c, M) ⟨_, _, rfl, ⟨_, _, rfl, ⟨_, _, rfl, ⟨_, _, rfl, ⟨_, _, rfl, ⟨_, _, rfl, rfl, rfl⟩, rfl⟩, rfl⟩, rfl⟩, rfl⟩, rfl⟩ ?_ (by repeat' first | exact sR _ | exact sA _ _ | exact sN _ | apply s2 | apply s1) (by repeat' first | exact trivial | refine ⟨rfl, ?_⟩) ?_)
  · exact ⟨rfl, Nat.zero_le _, by simp, ho⟩
  rintro h1 ⟨k, oo, p1, c1, M1⟩ _ ⟨rfl, hk, hoe, hO⟩
  simp only at hk hoe hO
  dsimp only
  have hol : oo.length = out.length + k := by rw [hoe]; simp; omega
  by_cases hlt : k < rs.length
  · obtain ⟨r, er⟩ := get_of hlt
    have hmt := map_take (idOf vs mf mt) er
    (focus (refine Wr ?_; refine Tc ?_; refine On ?_; refine WP_seq ?_; refine Wc ?_ ?_ <;> intro c2_1 <;> (first | simp [*] at c2_1; done | try simp at c2_1); refine WP_skip ?_; refine then_n ?_; refine WP_seq ?_; refine WP_block ?_; refine Wr ?_; refine Ti ?_; refine Tl ?_; refine Le ?_; rintro _ _ _ rfl; refine Tal ?_; intro b2_3; refine Tw u0 ?_; refine On ?_; refine R_draw (n := 11) mixed rfl ?_; refine Va 0 ?_; refine Vl 1 ?_; refine L_one (Rd.own m1) (ty rfl) ?_; refine Va 1 ?_; refine Vl 3 ?_; refine Lp ?_; refine Va 2 ?_; refine Vf 7 ?_; refine Va 3 ?_; refine Vl 15 ?_; refine L_fld (Rd.pers ‹_›) (ty rfl) rfl ?_; refine Va 4 ?_; refine Vf 31 ?_; refine Va 5 ?_; refine Vl 63 ?_; refine L_fld (Rd.pers ‹_›) (ty rfl) rfl ?_; refine Va 6 ?_; refine Vl 127 ?_; refine Lg m0 ?_; refine Va 7 ?_; refine A_c (m' := 255) rfl rfl rfl rfl (by decide +kernel) (C_callv (id_s ‹_›) rfl rfl ⟨_, _, rfl, ⟨_, _, rfl, ⟨_, _, rfl, ⟨_, _, rfl, rfl, rfl⟩, rfl⟩, rfl⟩, rfl⟩ (cal rfl) ?_); refine Va 8 ?_; refine A_c (m' := 511) rfl rfl rfl rfl (by decide +kernel) (C_buildSlice rfl (elm rfl) (zer rfl) rfl ⟨_, _, _, rfl, rfl, rfl, rfl, rfl, rfl⟩ rfl rfl ?_); intro b2_4; refine Va 9 ?_; refine A_w (m' := 1023) rfl rfl rfl rfl rfl (by decide +kernel) (W_app1 [_, _] _ ‹_› rfl rfl rfl rfl rfl rfl (elm rfl) (zer rfl) rfl rfl rfl rfl rfl (by (try simp only [lA]); omega) (by (try simp only [lA]); omega) ?_); rintro p2_5 q2_5 m2_5 o2_5; refine Va 10 ?_; refine A_w0 (m' := 2047) rfl rfl rfl rfl (by decide +kernel) (W_one rfl rfl rfl (ty rfl) u1 rfl rfl rfl ?_); refine A_done (by decide +kernel) ?_; refine block_n ?_; refine then_n ?_; refine R_region ?_; refine Ta ?_; refine Tm ?_; refine OPS_nil ?_))
    refine roundF_n (k + 1, oo ++ [idOf vs mf mt r], p2_5, q2_5, m2_5) (by simp only; omega) ⟨rfl, by simp only; omega, ?_, o2_5⟩ (by repeat' first | exact sR _ | exact sA _ _ | exact sN _ | apply s2 | apply s1) (by repeat' first | exact trivial | refine ⟨rfl, ?_⟩)
    simp only; rw [hmt, hoe, List.append_assoc]
  · have hge : k = rs.length := by omega
    subst hge
    rw [List.take_length] at hoe
    subst hoe
    (focus (refine Wr ?_; refine Tc ?_; refine On ?_; refine WP_seq ?_; refine Wc ?_ ?_ <;> intro c3_1 <;> (first | simp [*] at c3_1; done | try simp at c3_1); refine WP_exit ?_; refine then_e ?_; refine roundF_e ?_; refine block_e ?_))
    exact ret_q (_ :: M1) (.inr rfl) rfl rfl (by simp) ⟨rfl, p1, c1, M1, rfl, hO⟩
theorem roots_s {h : Frag} {a : Value} {vs : List View} (hs : SL h 13 (ViewC 4398046511104) a vs) (sm : Small vs) : PSpec Tryz.prog 13 #[a] h (fun h' v => ∃ p c, v = .slice p (rootsR vs).length c ∧ SL h' 2 IDC (.slice p (rootsR vs).length c) (rootsR vs)) := by
  have hlen := sm.len
  obtain ⟨pv, cv, rfl⟩ := hs.slice
  refine pspec_ofN (vs := [.slice pv vs.length cv]) Tryz.func13 Tryz.ntmps13 rfl rfl ?_
  (focus (refine Wr ?_; refine Tm ?_; refine On ?_; refine Wr ?_; refine Tm ?_; refine S_c rfl rfl rfl (C_call (of_s ‹_›) rfl rfl ⟨_, _, rfl, rfl, rfl⟩ (cal rfl) ?_); rintro h0_1 _ l0_1 ⟨pf0_1, qf0_1, mb0_1, rfl, ff0_1⟩; replace hs := hs.up l0_1; refine Tal ?_; intro b0_2; refine Tw u0 ?_; refine On ?_; refine Wr ?_; refine Tal ?_; intro b0_3; refine On ?_; refine WP_seq ?_; refine Wr ?_; refine Tm ?_; refine Tlen ?_; refine Tm ?_; refine On ?_; refine WP_block ?_))
  (focus (refine WP_keepM [_] [_] _ rfl ?_; rintro h1_k l1_k k1_k; have a1_k := at_of_keep k1_k; clear k1_k; replace ff0_1 := ff0_1.up l1_k; replace hs := hs.up l1_k))
  (refine WP_loopF (α := Nat × List ID × Option Addr × Nat × Hp) [22, 21, 4, 3] (fun (s : Nat × List ID × Option Addr × Nat × Hp) => vs.length - s.1) (fun (s : Nat × List ID × Option Addr × Nat × Hp) => (b0_3, cells [.slice s.2.2.1 s.2.1.length s.2.2.2.1] 31) :: (s.2.2.2.2 ++ [])) (fun (s : Nat × List ID × Option Addr × Nat × Hp) => [(23, .int .i64 (s.1 : Int))]) (fun hh (s : Nat × List ID × Option Addr × Nat × Hp) => hh = h1_k ∧ s.1 ≤ vs.length ∧ s.2.1 = (vs.take s.1).flatMap viewIDs ∧ OS h1_k 35 2 IDC (.slice s.2.2.1 s.2.1.length s.2.2.2.1) s.2.1 s.2.2.2.2) (0, [], none, 0, []) ⟨_, _, rfl, ⟨_, _, rfl, ⟨_, _, rfl, ⟨_, _, rfl, rfl, rfl⟩, rfl⟩, rfl⟩, rfl⟩ ?_ (by repeat' first | exact sR _ | exact sA _ _ | exact sN _ | apply s2 | apply s1) (by repeat' first | exact trivial | refine ⟨rfl, ?_⟩) ?_)
  · exact ⟨rfl, Nat.zero_le _, rfl, OS.nil _ _ _ _⟩
  rintro h1 ⟨k, out, p, c, M⟩ _ ⟨rfl, hk, hoe, hO⟩
  simp only at hk hoe hO
  dsimp only
  have hol : out.length ≤ 240 := by rw [hoe]; exact flatMap_take_len sm k
  by_cases hlt : k < vs.length
  · obtain ⟨v, ev⟩ := get_of hlt
    have hvm : v ∈ vs := List.mem_of_getElem? ev
    have hn6 := sm.names v hvm
    have hm6 := sm.mail v hvm
    have ha6 := sm.args v hvm
    have hvt := flatMap_take viewIDs ev
    (focus (refine Wr ?_; refine Tc ?_; refine On ?_; refine WP_seq ?_; refine Wc ?_ ?_ <;> intro c3_1 <;> (first | simp [*] at c3_1; done | try simp at c3_1); refine WP_skip ?_; refine then_n ?_; refine WP_seq ?_; refine WP_block ?_; refine Wr ?_; refine Ti ?_; refine Tl ?_; refine Le ?_; rintro _ _ _ ⟨xi3_2, xa3_2, po3_2, qo3_2, ps3_2, qs3_2, pc3_2, qc3_2, pn3_2, qn3_2, pm3_2, qm3_2, xw3_2, xv3_2, pf3_2, qf3_2, pr3_2, qr3_2, xe3_2, xf3_2, rfl, vo3_2, vs3_2, vc3_2, vn3_2, vm3_2, vf3_2, vr3_2⟩; refine Tal ?_; intro b3_3; refine Tw u0 ?_; refine On ?_; refine WP_seq ?_; refine Wr ?_; refine Tf ?_; refine Tl ?_; refine Lo m0 ?_; refine Tlen ?_; refine Tm ?_; refine On ?_; refine WP_block ?_))
    (refine WP_loopM (α := Nat × List ID × Option Addr × Nat × Hp) [_]  _ [29, 28, 6, 23, 22, 21, 4, 3] (fun (s : Nat × List ID × Option Addr × Nat × Hp) => v.names.length - s.1) (fun (s : Nat × List ID × Option Addr × Nat × Hp) =>  ((b0_3, cells [.slice s.2.2.1 s.2.1.length s.2.2.2.1] 31) :: s.2.2.2.2)) (fun (s : Nat × List ID × Option Addr × Nat × Hp) => [(30, .int .i64 (s.1 : Int))]) (fun hh (s : Nat × List ID × Option Addr × Nat × Hp) => hh = h1 ∧ s.1 ≤ v.names.length ∧ s.2.1 = out ++ v.names.take s.1 ∧ OS h1 35 2 IDC (.slice s.2.2.1 s.2.1.length s.2.2.2.1) s.2.1 s.2.2.2.2) (0, out, p, c, M) rfl ⟨_, _, rfl, ⟨_, _, rfl, ⟨_, _, rfl, ⟨_, _, rfl, ⟨_, _, rfl, ⟨_, _, rfl, ⟨_, _, rfl, ⟨_, _, rfl, rfl, rfl⟩, rfl⟩, rfl⟩, rfl⟩, rfl⟩, rfl⟩, rfl⟩, rfl⟩ (by repeat' first | exact trivial | refine ⟨rfl, ?_⟩) ?_ ?_)
    · exact ⟨rfl, Nat.zero_le _, by simp, hO⟩
    clear hO M p c
    rintro h2 ⟨j, oo, p, c, M⟩ _ ⟨rfl, hj, hoo, hO⟩
    simp only at hj hoo hO
    dsimp only
    have hool : oo.length ≤ out.length + 6 := by rw [hoo, List.length_append, List.length_take]; omega
    by_cases hlt2 : j < v.names.length
    · obtain ⟨⟨n1, n2⟩, en⟩ := get_of hlt2
      (focus (refine Wr ?_; refine Tc ?_; refine On ?_; refine WP_seq ?_; refine Wc ?_ ?_ <;> intro c5_1 <;> (first | simp [*] at c5_1; done | try simp at c5_1); refine WP_skip ?_; refine then_n ?_; refine WP_seq ?_; refine WP_block ?_; refine Wr ?_; refine Ti ?_; refine Tl ?_; refine Le ?_; rintro _ _ _ ⟨xa5_2, rfl⟩; refine Tal ?_; intro b5_3; refine Tw u0 ?_; refine On ?_; refine R_region ?_; refine Tl ?_; refine L_one (Rd.own m2) (ty rfl) ?_; refine Tf ?_; refine Tl ?_; refine L_sub (Rd.own m0) (ty rfl) rfl ?_; refine S_c rfl rfl rfl (C_buildSlice rfl (elm rfl) (zer rfl) rfl ⟨_, _, _, rfl, rfl, rfl, rfl, rfl, rfl⟩ rfl rfl ?_); intro b5_4; refine S_w rfl rfl rfl (W_app1 [_, _, _] _ ‹_› rfl rfl rfl rfl rfl rfl (elm rfl) (zer rfl) rfl rfl rfl rfl rfl (by (try simp only [lA]); omega) (by (try simp only [lA]); omega) ?_); rintro p5_5 q5_5 m5_5 o5_5; refine S_w0 rfl rfl (W_one rfl rfl rfl (ty rfl) u2 rfl rfl rfl ?_); refine OPS_nil ?_; refine block_n ?_; refine then_n ?_; refine R_region ?_; refine Ta ?_; refine Tm ?_; refine OPS_nil ?_))
      refine roundF_n (j + 1, oo ++ [(n1, n2)], p5_5, q5_5, m5_5) (by simp only; omega) ⟨rfl, by simp only; omega, ?_, o5_5⟩ (by repeat' first | exact sR _ | exact sA _ _ | exact sN _ | apply s2 | apply s1) (by repeat' first | exact trivial | refine ⟨rfl, ?_⟩)
      simp only; rw [hoo, List.take_add_one, en]; simp
    · have hge : j = v.names.length := by omega
      subst hge
      rw [List.take_length] at hoo
      (focus (refine Wr ?_; refine Tc ?_; refine On ?_; refine WP_seq ?_; refine Wc ?_ ?_ <;> intro c6_1 <;> (first | simp [*] at c6_1; done | try simp at c6_1); refine WP_exit ?_; refine then_e ?_; refine roundF_e ?_; refine block_e ?_; refine then_n ?_; refine Wr ?_; refine Tf ?_; refine Tl ?_; refine Lo m0 ?_; refine Tlen ?_; refine Tm ?_; refine On ?_; refine WP_block ?_))
      (refine WP_loopM (α := Nat × List ID × Option Addr × Nat × Hp) [_]  _ [42, 41, 23, 22, 21, 4, 3] (fun (s : Nat × List ID × Option Addr × Nat × Hp) => v.mail.length - s.1) (fun (s : Nat × List ID × Option Addr × Nat × Hp) =>  ((b0_3, cells [.slice s.2.2.1 s.2.1.length s.2.2.2.1] 31) :: s.2.2.2.2)) (fun (s : Nat × List ID × Option Addr × Nat × Hp) => [(43, .int .i64 (s.1 : Int))]) (fun hh (s : Nat × List ID × Option Addr × Nat × Hp) => hh = h2 ∧ s.1 ≤ v.mail.length ∧ s.2.1 = oo ++ (v.mail.take s.1).flatMap mailIDs ∧ OS h2 35 2 IDC (.slice s.2.2.1 s.2.1.length s.2.2.2.1) s.2.1 s.2.2.2.2) (0, oo, p, c, M) rfl ⟨_, _, rfl, ⟨_, _, rfl, ⟨_, _, rfl, ⟨_, _, rfl, ⟨_, _, rfl, ⟨_, _, rfl, ⟨_, _, rfl, rfl, rfl⟩, rfl⟩, rfl⟩, rfl⟩, rfl⟩, rfl⟩, rfl⟩ (by repeat' first | exact trivial | refine ⟨rfl, ?_⟩) ?_ ?_)
      · exact ⟨rfl, Nat.zero_le _, by simp, hO⟩
      clear hO M p c
      rintro h3 ⟨i, o3, p, c, M⟩ _ ⟨rfl, hi, ho3, hO⟩
      simp only at hi ho3 hO
      dsimp only
      have ho3l : o3.length ≤ oo.length + 42 := by
        have := flatMap_le mailIDs 7 (v.mail.take i) (fun m hm => by
          have h1 := ha6 m (List.mem_of_mem_take hm)
          have h2 := refsV_length m.args
          simp [mailIDs]; omega)
        rw [List.length_take] at this
        rw [ho3, List.length_append]; omega
      by_cases hlt3 : i < v.mail.length
      · obtain ⟨⟨⟨t1, t2⟩, ag⟩, em⟩ := get_of hlt3
        have hmt := flatMap_take mailIDs em
        have hag : ag.length ≤ 6 := ha6 _ (List.mem_of_getElem? em)
        (focus (refine Wr ?_; refine Tc ?_; refine On ?_; refine WP_seq ?_; refine Wc ?_ ?_ <;> intro c8_1 <;> (first | simp [*] at c8_1; done | try simp at c8_1); refine WP_skip ?_; refine then_n ?_; refine WP_seq ?_; refine WP_block ?_; refine Wr ?_; refine Ti ?_; refine Tl ?_; refine Le ?_; rintro _ _ _ ⟨xa8_2, xb8_2, xm8_2, pl8_2, ql8_2, rfl, fl8_2⟩; refine Tal ?_; intro b8_3; refine Tw u0 ?_; refine On ?_; refine Wr ?_; refine Tl ?_; refine L_one (Rd.own m2) (ty rfl) ?_; refine Tf ?_; refine Tl ?_; refine L_sub (Rd.own m0) (ty rfl) rfl ?_; refine S_c rfl rfl rfl (C_buildSlice rfl (elm rfl) (zer rfl) rfl ⟨_, _, _, rfl, rfl, rfl, rfl, rfl, rfl⟩ rfl rfl ?_); intro b8_4; refine S_w rfl rfl rfl (W_app1 [_, _, _] _ ‹_› rfl rfl rfl rfl rfl rfl (elm rfl) (zer rfl) rfl rfl rfl rfl rfl (by (try simp only [lA]); omega) (by (try simp only [lA]); omega) ?_); rintro p8_5 q8_5 m8_5 o8_5; refine S_w0 rfl rfl (W_one rfl rfl rfl (ty rfl) u2 rfl rfl rfl ?_); refine On ?_; refine Wr ?_; refine Tf ?_; refine Tl ?_; refine Lo m0 ?_; refine Tlen ?_; refine Tm ?_; refine On ?_; refine WP_block ?_))
        (refine WP_loopM (α := Nat × List ID × Option Addr × Nat × Hp) [_, _]  _ [54, 53, 43, 42, 41, 23, 22, 21, 4, 3] (fun (s : Nat × List ID × Option Addr × Nat × Hp) => ag.length - s.1) (fun (s : Nat × List ID × Option Addr × Nat × Hp) =>  ((b0_3, cells [.slice s.2.2.1 s.2.1.length s.2.2.2.1] 31) :: s.2.2.2.2)) (fun (s : Nat × List ID × Option Addr × Nat × Hp) => [(55, .int .i64 (s.1 : Int))]) (fun hh (s : Nat × List ID × Option Addr × Nat × Hp) => hh = h3 ∧ s.1 ≤ ag.length ∧ s.2.1 = (o3 ++ [(t1, t2)]) ++ refsV (ag.take s.1) ∧ OS h3 35 2 IDC (.slice s.2.2.1 s.2.1.length s.2.2.2.1) s.2.1 s.2.2.2.2) (0, o3 ++ [(t1, t2)], p8_5, q8_5, m8_5) rfl ⟨_, _, rfl, ⟨_, _, rfl, ⟨_, _, rfl, ⟨_, _, rfl, ⟨_, _, rfl, ⟨_, _, rfl, ⟨_, _, rfl, ⟨_, _, rfl, ⟨_, _, rfl, ⟨_, _, rfl, rfl, rfl⟩, rfl⟩, rfl⟩, rfl⟩, rfl⟩, rfl⟩, rfl⟩, rfl⟩, rfl⟩, rfl⟩ (by repeat' first | exact trivial | refine ⟨rfl, ?_⟩) ?_ ?_)
        · exact ⟨rfl, Nat.zero_le _, by simp [refsV_nil], o8_5⟩
        clear hO M p c
        rintro h4 ⟨r, o4, p, c, M⟩ _ ⟨rfl, hr, ho4, hO⟩
        simp only at hr ho4 hO
        dsimp only
        have ho4l : o4.length ≤ o3.length + 7 := by
          have := refsV_length (ag.take r)
          rw [List.length_take] at this
          rw [ho4]; simp only [List.length_append, List.length_cons, List.length_nil]; omega
        by_cases hlt4 : r < ag.length
        · obtain ⟨⟨f1, f2, i1, i2⟩, ex⟩ := get_of hlt4
          have htk := refsV_take ex
          (focus (refine Wr ?_; refine Tc ?_; refine On ?_; refine WP_seq ?_; refine Wc ?_ ?_ <;> intro c10_1 <;> (first | simp [*] at c10_1; done | try simp at c10_1); refine WP_skip ?_; refine then_n ?_; refine WP_seq ?_; refine WP_block ?_; refine Wr ?_; refine Ti ?_; refine Tl ?_; refine Le ?_; rintro _ _ _ rfl; refine Tal ?_; intro b10_3; refine Tw u0 ?_; refine On ?_; refine Wr ?_; refine Tf ?_; refine Tl ?_; refine Lo m0 ?_; refine Tc ?_; refine On ?_; refine Wc ?_ ?_ <;> intro c10_4 <;> (first | simp [*] at c10_4; done | try simp at c10_4); (focus (refine R_region ?_; refine Tl ?_; refine L_one (Rd.own m3) (ty rfl) ?_; refine Tf ?_; refine Tl ?_; refine L_sub (Rd.own m0) (ty rfl) rfl ?_; refine S_c rfl rfl rfl (C_buildSlice rfl (elm rfl) (zer rfl) rfl ⟨_, _, _, rfl, rfl, rfl, rfl, rfl, rfl⟩ rfl rfl ?_); intro b10_5; refine S_w rfl rfl rfl (W_app1 [_, _, _, _] _ ‹_› rfl rfl rfl rfl rfl rfl (elm rfl) (zer rfl) rfl rfl rfl rfl rfl (by (try simp only [lA]); omega) (by (try simp only [lA]); omega) ?_); rintro p10_6 q10_6 m10_6 o10_6; refine S_w0 rfl rfl (W_one rfl rfl rfl (ty rfl) u3 rfl rfl rfl ?_); refine OPS_nil ?_; refine block_n ?_; refine then_n ?_; refine R_region ?_; refine Ta ?_; refine Tm ?_; refine OPS_nil ?_)); rotate_left 1; (focus (refine WP_skip ?_; refine block_n ?_; refine then_n ?_; refine R_region ?_; refine Ta ?_; refine Tm ?_; refine OPS_nil ?_)); rotate_left 1))
          · simp only [c10_4, if_true] at htk
            refine roundF_n (r + 1, o4 ++ [(i1, i2)], p10_6, q10_6, m10_6) (by simp only; omega) ⟨rfl, by simp only; omega, ?_, o10_6⟩ (by repeat' first | exact sR _ | exact sA _ _ | exact sN _ | apply s2 | apply s1) (by repeat' first | exact trivial | refine ⟨rfl, ?_⟩)
            simp only; rw [htk, ho4]; simp only [List.append_assoc]
          · simp only [c10_4, if_false, List.append_nil] at htk
            refine roundF_n (r + 1, o4, p, c, M) (by simp only; omega) ⟨rfl, by simp only; omega, ?_, hO⟩ (by repeat' first | exact sR _ | exact sA _ _ | exact sN _ | apply s2 | apply s1) (by repeat' first | exact trivial | refine ⟨rfl, ?_⟩)
            simp only; rw [htk, ho4]
        · have hge : r = ag.length := by omega
          subst hge
          rw [List.take_length] at ho4
          (focus (refine Wr ?_; refine Tc ?_; refine On ?_; refine WP_seq ?_; refine Wc ?_ ?_ <;> intro c11_1 <;> (first | simp [*] at c11_1; done | try simp at c11_1); refine WP_exit ?_; refine then_e ?_; refine roundF_e ?_; refine block_e ?_; refine block_n ?_; refine then_n ?_; refine R_region ?_; refine Ta ?_; refine Tm ?_; refine OPS_nil ?_))
          refine roundF_n (i + 1, o4, p, c, M) (by simp only; omega) ⟨rfl, by simp only; omega, ?_, hO⟩ (by repeat' first | exact sR _ | exact sA _ _ | exact sN _ | apply s2 | apply s1) (by repeat' first | exact trivial | refine ⟨rfl, ?_⟩)
          simp only; rw [hmt, ho4, ho3, mailIDs]; simp only [List.append_assoc, List.cons_append, List.nil_append]
      · have hge : i = v.mail.length := by omega
        subst hge
        rw [List.take_length] at ho3
        (focus (refine Wr ?_; refine Tc ?_; refine On ?_; refine WP_seq ?_; refine Wc ?_ ?_ <;> intro c12_1 <;> (first | simp [*] at c12_1; done | try simp at c12_1); refine WP_exit ?_; refine then_e ?_; refine roundF_e ?_; refine block_e ?_; refine block_n ?_; refine then_n ?_; refine R_region ?_; refine Ta ?_; refine Tm ?_; refine OPS_nil ?_))
        refine roundF_n (k + 1, o3, p, c, M) (by simp only; omega) ⟨rfl, by simp only; omega, ?_, hO⟩ (by repeat' first | exact sR _ | exact sA _ _ | exact sN _ | apply s2 | apply s1) (by repeat' first | exact trivial | refine ⟨rfl, ?_⟩)
        simp only; rw [hvt, ho3, hoo, hoe, viewIDs, List.append_assoc]
  · have hge : k = vs.length := by omega
    subst hge
    rw [List.take_length] at hoe
    (focus (refine Wr ?_; refine Tc ?_; refine On ?_; refine WP_seq ?_; refine Wc ?_ ?_ <;> intro c13_1 <;> (first | simp [*] at c13_1; done | try simp at c13_1); refine WP_exit ?_; refine then_e ?_; refine roundF_e ?_; refine block_e ?_; refine then_n ?_; refine WP_seq ?_; refine Wr ?_; refine Tl ?_; refine Lp ?_; refine S_c rfl rfl rfl (C_call (flights_s ‹_›) rfl rfl ⟨_, _, rfl, rfl, rfl⟩ (cal rfl) ?_); rintro h13_2 _ l13_2 ⟨bi13_2, rfl, it13_2⟩; replace a1_k := a1_k.up l13_2; replace ff0_1 := ff0_1.up l13_2; replace hs := hs.up l13_2; replace hO := hO.up l13_2; refine On ?_; refine WP_block ?_))
    refine WP_rangeS [] [] (fun s : List ID × Option Addr × Nat × Hp => (b0_3, cells [.slice s.2.1 s.1.length s.2.2.1] 31) :: s.2.2.2)
      (fun pre hh s => le h13_2 hh ∧ s.1 = vs.flatMap viewIDs ++ pre.flatMap (flightIDs vs) ∧ OS hh 35 2 IDC (.slice s.2.1 s.1.length s.2.2.1) s.1 s.2.2.2) (fun _ _ _ => False) (out, p, c, M) it13_2 rfl Tryz.func77 (by decide) rfl (by rintro _ _ _ ⟨_, _, rfl, _⟩; rfl) rfl rfl ⟨le_refl _, by simp [hoe], hO⟩ ?_ ?_ ?_
    · clear hO hol hoe M p c out
      rintro l pre ⟨v, x⟩ _ h2 ⟨out, p, c, M⟩ hl1 ⟨hl2, hoe, hO⟩ hp ⟨us, ws, rfl, hu1, hu2, hu3, hw1, hw2, hw3⟩
      simp only at hoe hO hu3 hw3
      obtain ⟨hvm, hxm⟩ := flightsOf_mem (hp.subset (by simp : (v, x) ∈ pre ++ [(v, x)]))
      have hsn : (pre ++ [(v, x)]).flatMap (flightIDs vs) = pre.flatMap (flightIDs vs) ++ flightIDs vs (v, x) := by simp
      have hol : out.length ≤ 2000 := by rw [hoe]; exact pre_len sm ((List.prefix_append _ _).trans hp)
      have hl6 := sm.letter v hvm x hxm
      have hp6 := sm.pmail v hvm x hxm
      have hq6 := sm.pargs v hvm x hxm
      (replace it13_2 := it13_2.up hl1; replace a1_k := a1_k.up hl1; replace ff0_1 := ff0_1.up hl1; replace hs := hs.up hl1)
      obtain ⟨hi, xa, po, qo, qs, qt, pc, qc, pn, qn, pm, qm, xw, xv, pf, qf, pr, qr, xe, xf, rfl, -⟩ := hu3
      obtain ⟨ya, yb, yc, yd, ye, pa, qa, pg, qg, ph, qh, yw, y1, y2, y3, y4, y5, y6, y7, y8, y9, y10, y11, y12, y13, y14, y15, rfl, ha, hfs, hm⟩ := hw3
      dsimp only [parFr]
      (focus (refine Wr ?_; refine Tal ?_; intro b15_1; refine Tw u0 ?_; refine On ?_; refine R_region ?_; refine Tal ?_; intro b15_2; refine Tw u0 ?_; refine On ?_))
      refine ⟨rfl, ?_⟩
      (focus (refine WP_keepM [] [_] _ rfl ?_; rintro h16_k l16_k k16_k; have a16_k := at_of_keep k16_k; clear k16_k; replace hO := hO.up l16_k; replace it13_2 := it13_2.up l16_k; replace a1_k := a1_k.up l16_k; replace ff0_1 := ff0_1.up l16_k; replace hs := hs.up l16_k; replace ha := ha.up l16_k; replace hfs := hfs.up l16_k; replace hm := hm.up l16_k))
      (focus (refine WP_keepM [] [_] _ rfl ?_; rintro h17_k l17_k k17_k; have a17_k := at_of_keep k17_k; clear k17_k; replace a16_k := a16_k.up l17_k; replace hO := hO.up l17_k; replace it13_2 := it13_2.up l17_k; replace a1_k := a1_k.up l17_k; replace ff0_1 := ff0_1.up l17_k; replace hs := hs.up l17_k; replace ha := ha.up l17_k; replace hfs := hfs.up l17_k; replace hm := hm.up l17_k))
      (focus (refine WP_block ?_; refine Wr ?_; refine S_q rfl rfl rfl (Q_makeFunc rfl rfl ⟨_, _, rfl, ⟨_, _, rfl, ⟨_, _, rfl, ⟨_, _, rfl, rfl, rfl⟩, rfl⟩, rfl⟩, rfl⟩) ?_; refine Tm ?_; refine On ?_; refine Wr ?_; refine Tf ?_; refine Tl ?_; refine L_sub (Rd.pers ‹_›) (ty rfl) rfl ?_; refine Tal ?_; intro b18_1; refine Tw u0 ?_; refine On ?_; refine Wr ?_; refine Tf ?_; refine Tl ?_; refine Lo m0 ?_; refine On ?_; refine WP_block ?_; refine Wr ?_; refine Tc ?_; refine Tm ?_; refine On ?_; refine Wc ?_ ?_ <;> intro c18_2 <;> (first | simp [*] at c18_2; done | try simp at c18_2); (focus (refine WP_seq ?_; refine R_draw (n := 12) mixed rfl ?_; refine Va 0 ?_; refine Vl 1 ?_; refine L_one (Rd.own m1) (ty rfl) ?_; refine Va 1 ?_; refine Vl 3 ?_; refine Lp ?_; refine Va 2 ?_; refine Vf 7 ?_; refine Va 3 ?_; refine Vl 15 ?_; refine L_fld (Rd.pers ‹_›) (ty rfl) rfl ?_; refine Va 4 ?_; refine Vf 31 ?_; refine Va 5 ?_; refine Vl 63 ?_; refine L_fld (Rd.pers ‹_›) (ty rfl) rfl ?_; refine Va 6 ?_; refine Vf 127 ?_; refine Va 7 ?_; refine Vl 255 ?_; refine Lo m0 ?_; refine Va 8 ?_; refine A_c (m' := 511) rfl rfl rfl rfl (by decide +kernel) (C_callv (numbered_s ‹_›) rfl rfl ⟨_, _, rfl, ⟨_, _, rfl, ⟨_, _, rfl, ⟨_, _, rfl, rfl, rfl⟩, rfl⟩, rfl⟩, rfl⟩ (cal rfl) ?_); refine Va 9 ?_; refine A_c (m' := 1023) rfl rfl rfl rfl (by decide +kernel) (C_buildSlice rfl (elm rfl) (zer rfl) rfl ⟨_, _, _, rfl, rfl, rfl, rfl, rfl, rfl⟩ rfl rfl ?_); intro b18_3; refine Va 10 ?_; refine A_w (m' := 2047) rfl rfl rfl rfl rfl (by decide +kernel) (W_app1 [_, _] _ ‹_› rfl rfl rfl rfl rfl rfl (elm rfl) (zer rfl) rfl rfl rfl rfl rfl (by (try simp only [lA]); omega) (by (try simp only [lA]); omega) ?_); rintro p18_4 q18_4 m18_4 o18_4; refine Va 11 ?_; refine A_w0 (m' := 4095) rfl rfl rfl rfl (by decide +kernel) (W_one rfl rfl rfl (ty rfl) u1 rfl rfl rfl ?_); refine A_done (by decide +kernel) ?_; refine then_n ?_; refine R_region ?_; refine Tm ?_; refine Tf ?_; refine Tf ?_; refine Tl ?_; refine L_fld2 (Rd.own m0) ?_; refine LV_1 (ty rfl) rfl ?_)); rotate_left 1; (focus (refine Wr ?_; refine Tc ?_; refine Tm ?_; refine On ?_; refine Wc ?_ ?_ <;> intro c18_5 <;> (first | simp [*] at c18_5; done | try simp at c18_5); (focus (refine R_region ?_; refine Tm ?_; refine Tf ?_; refine Tl ?_; refine L_sub (Rd.own m0) (ty rfl) rfl ?_; refine S_c rfl rfl rfl (C_buildSlice rfl (elm rfl) (zer rfl) rfl ⟨_, _, _, rfl, rfl, rfl, rfl, rfl, rfl⟩ rfl rfl ?_); intro b18_6)); rotate_left 1; (focus (refine Wr ?_; refine Tc ?_; refine Tm ?_; refine On ?_; refine Wc ?_ ?_ <;> intro c18_7 <;> (first | simp [*] at c18_7; done | try simp at c18_7); (focus (refine Wr ?_; refine Tf ?_; refine Tf ?_; refine Tl ?_; refine L_fld2 (Rd.own m0) ?_; refine LV_1 (ty rfl) rfl ?_; refine Tlen ?_; refine Tm ?_; refine On ?_; refine WP_block ?_)); rotate_left 1; (focus (refine WP_skip ?_; refine block_n ?_; refine block_n ?_)); rotate_left 1)); rotate_left 2)); rotate_left 3))
      · have hfi : flightIDs vs (v, x) = numberedOf vs v.machine x.to x.msg.number :: x.msg.args.map (idOf vs v.machine x.to) := by rw [flightIDs, if_pos c18_2]
        refine S_w rfl rfl rfl (W_callC (cap := [ptr b0_3 0, ptr b0_2 0, ptr b15_1 0, ptr b15_2 0]) [_] _ (rootsAdd_s (mf := v.machine) (mt := x.to) a1_k ff0_1 a17_k a16_k ha o18_4 (by simp; omega)) rfl rfl rfl ⟨_, _, rfl, rfl, rfl⟩ (cal rfl) rfl ?_)
        rintro h3 L3 _ hl3 ⟨rfl, p3, c3, M3, rfl, hO3⟩
        (focus (refine OPS_nil ?_; refine block_n ?_; refine block_n ?_))
        refine bodyS_n (_, p3, c3, M3) ⟨le_trans hl2 (le_trans l16_k l17_k), ?_, hO3⟩ (by repeat' first | exact sR _ | exact sA _ _ | exact sN _ | apply s2 | apply s1)
        simp only; rw [hsn, hfi, hoe]; simp only [List.append_assoc, List.cons_append, List.nil_append]
      · have hfi : flightIDs vs (v, x) = [idOf vs v.machine x.to x.msg.ref] := by rw [flightIDs, if_neg c18_2, if_pos c18_5]
        (focus (refine OPS_keepM [] [_] _ rfl ?_; rintro h20_k l20_k k20_k; have a20_k := at_of_keep k20_k; clear k20_k; replace a17_k := a17_k.up l20_k; replace a16_k := a16_k.up l20_k; replace hO := hO.up l20_k; replace it13_2 := it13_2.up l20_k; replace a1_k := a1_k.up l20_k; replace ff0_1 := ff0_1.up l20_k; replace hs := hs.up l20_k; replace ha := ha.up l20_k; replace hfs := hfs.up l20_k; replace hm := hm.up l20_k))
        refine S_w rfl rfl rfl (W_callC (vs := [.slice (some ⟨b18_6, 0, none⟩) 1 1]) (cap := [ptr b0_3 0, ptr b0_2 0, ptr b15_1 0, ptr b15_2 0]) [_] _ (rootsAdd_s (l := .slice (some ⟨b18_6, 0, none⟩) 1 1) (mf := v.machine) (mt := x.to) (rs := [x.msg.ref]) a1_k ff0_1 a17_k a16_k (slb_of_at a20_k (Flat.one rfl rfl rfl) (by simp)) hO (by simp; omega)) rfl rfl rfl ⟨_, _, rfl, rfl, rfl⟩ (cal rfl) rfl ?_)
        rintro h3 L3 _ hl3 ⟨rfl, p3, c3, M3, rfl, hO3⟩
        (focus (refine OPS_nil ?_; refine block_n ?_; refine block_n ?_))
        refine bodyS_n (_, p3, c3, M3) ⟨le_trans hl2 (le_trans l16_k (le_trans l17_k l20_k)), ?_, hO3⟩ (by repeat' first | exact sR _ | exact sA _ _ | exact sN _ | apply s2 | apply s1)
        simp only; rw [hsn, hfi, hoe]; simp only [List.append_assoc, List.map_cons, List.map_nil]
      · have hfi : flightIDs vs (v, x) = x.msg.parcel.mail.flatMap fun l => x.msg.parcel.id :: l.map (idOf vs v.machine x.to) := by rw [flightIDs, if_neg c18_2, if_neg c18_5, if_pos c18_7]
        (refine WP_loopM (α := Nat × List ID × Option Addr × Nat × Hp) [_]  _ [109, 108, 16, 15, 4] (fun (s : Nat × List ID × Option Addr × Nat × Hp) => x.msg.parcel.mail.length - s.1) (fun (s : Nat × List ID × Option Addr × Nat × Hp) =>  ((b0_3, cells [.slice s.2.2.1 s.2.1.length s.2.2.2.1] 31) :: s.2.2.2.2)) (fun (s : Nat × List ID × Option Addr × Nat × Hp) => [(110, .int .i64 (s.1 : Int))]) (fun hh (s : Nat × List ID × Option Addr × Nat × Hp) => hh = h17_k ∧ s.1 ≤ x.msg.parcel.mail.length ∧ s.2.1 = out ++ (x.msg.parcel.mail.take s.1).flatMap (fun l => x.msg.parcel.id :: l.map (idOf vs v.machine x.to)) ∧ OS h17_k 35 2 IDC (.slice s.2.2.1 s.2.1.length s.2.2.2.1) s.2.1 s.2.2.2.2) (0, out, p, c, M) rfl ⟨_, _, rfl, ⟨_, _, rfl, ⟨_, _, rfl, ⟨_, _, rfl, ⟨_, _, rfl, rfl, rfl⟩, rfl⟩, rfl⟩, rfl⟩, rfl⟩ (by repeat' first | exact trivial | refine ⟨rfl, ?_⟩) ?_ ?_)
        · exact ⟨rfl, Nat.zero_le _, by simp, hO⟩
        clear hO
        rintro h3 ⟨j, oo, p, c, M⟩ _ ⟨hh3, hj, hoo, hO⟩
        simp only at hj hoo hO
        dsimp only
        subst hh3
        have hool : oo.length ≤ out.length + 28 := by
          have := flatMap_le (fun l : List Ref => x.msg.parcel.id :: l.map (idOf vs v.machine x.to)) 7 (x.msg.parcel.mail.take j) (fun m hm => by
            have := hq6 m (List.mem_of_mem_take hm)
            simp; omega)
          rw [List.length_take] at this
          rw [hoo, List.length_append]; omega
        by_cases hlt2 : j < x.msg.parcel.mail.length
        · obtain ⟨lt, el⟩ := get_of hlt2
          have hlt6 := hq6 _ (List.mem_of_getElem? el)
          have hlm := flatMap_take (fun l : List Ref => x.msg.parcel.id :: l.map (idOf vs v.machine x.to)) el
          (focus (refine Wr ?_; refine Tc ?_; refine On ?_; refine WP_seq ?_; refine Wc ?_ ?_ <;> intro c23_1 <;> (first | simp [*] at c23_1; done | try simp at c23_1); refine WP_skip ?_; refine then_n ?_; refine WP_seq ?_; refine WP_block ?_; refine Wr ?_; refine Ti ?_; refine Tl ?_; refine Le ?_; rintro _ _ _ ⟨xa23_2, xb23_2, xm23_2, pl23_2, ql23_2, rfl, fl23_2⟩; refine Tal ?_; intro b23_3; refine Tw u0 ?_; refine On ?_; refine Wr ?_; refine Tl ?_; refine L_one (Rd.own m2) (ty rfl) ?_; refine Tf ?_; refine Tf ?_; refine Tl ?_; refine L_fld2 (Rd.own m1) ?_; refine LV_a (ty rfl) rfl ?_; refine S_c rfl rfl rfl (C_buildSlice rfl (elm rfl) (zer rfl) rfl ⟨_, _, _, rfl, rfl, rfl, rfl, rfl, rfl⟩ rfl rfl ?_); intro b23_4; refine S_w rfl rfl rfl (W_app1 [_, _, _] _ ‹_› rfl rfl rfl rfl rfl rfl (elm rfl) (zer rfl) rfl rfl rfl rfl rfl (by (try simp only [lA]); omega) (by (try simp only [lA]); omega) ?_); rintro p23_5 q23_5 m23_5 o23_5; refine S_w0 rfl rfl (W_one rfl rfl rfl (ty rfl) u2 rfl rfl rfl ?_); refine On ?_; refine R_region ?_; refine Tm ?_; refine Tf ?_; refine Tl ?_; refine Lo m0 ?_))
          refine S_w rfl rfl rfl (W_callC (cap := [ptr b0_3 0, ptr b0_2 0, ptr b15_1 0, ptr b15_2 0]) [_, _] _ (rootsAdd_s (mf := v.machine) (mt := x.to) a1_k ff0_1 a17_k a16_k fl23_2 o23_5 (by simp; omega)) rfl rfl rfl ⟨_, _, rfl, rfl, rfl⟩ (cal rfl) rfl ?_)
          rintro h4 L4 _ hl4 ⟨rfl, p3, c3, M3, rfl, hO3⟩
          (focus (refine OPS_nil ?_; refine block_n ?_; refine then_n ?_; refine R_region ?_; refine Ta ?_; refine Tm ?_; refine OPS_nil ?_))
          refine roundF_n (j + 1, _, p3, c3, M3) (by simp only; omega) ⟨rfl, by simp only; omega, ?_, hO3⟩ (by repeat' first | exact sR _ | exact sA _ _ | exact sN _ | apply s2 | apply s1) (by repeat' first | exact trivial | refine ⟨rfl, ?_⟩)
          simp only; rw [hlm, hoo]; simp only [List.append_assoc, List.cons_append, List.nil_append]
        · have hge : j = x.msg.parcel.mail.length := by omega
          subst hge
          rw [List.take_length, ← hfi] at hoo
          (focus (refine Wr ?_; refine Tc ?_; refine On ?_; refine WP_seq ?_; refine Wc ?_ ?_ <;> intro c25_1 <;> (first | simp [*] at c25_1; done | try simp at c25_1); refine WP_exit ?_; refine then_e ?_; refine roundF_e ?_; refine block_e ?_; refine block_n ?_; refine block_n ?_))
          refine bodyS_n (oo, p, c, M) ⟨le_trans hl2 (le_trans l16_k l17_k), ?_, hO⟩ (by repeat' first | exact sR _ | exact sA _ _ | exact sN _ | apply s2 | apply s1)
          simp only; rw [hsn, hoo, hoe, List.append_assoc]
      · have hfi : flightIDs vs (v, x) = [] := by rw [flightIDs, if_neg c18_2, if_neg c18_5, if_neg c18_7]
        refine bodyS_n (out, p, c, M) ⟨le_trans hl2 (le_trans l16_k l17_k), ?_, hO⟩ (by repeat' first | exact sR _ | exact sA _ _ | exact sN _ | apply s2 | apply s1)
        simp only; rw [hsn, hfi, hoe, List.append_nil]
    · clear hO hol hoe M p c out
      rintro d h2 ⟨out, p, c, M⟩ hl1 ⟨hl2, hoe, hO⟩
      simp only at hoe hO
      (replace it13_2 := it13_2.up hl1; replace a1_k := a1_k.up hl1; replace ff0_1 := ff0_1.up hl1; replace hs := hs.up hl1)
      have hraw : out = rawRoots vs := by rw [rawRoots, hoe]
      have hol : out.length ≤ 2000 := by rw [hraw]; exact raw_len sm
      have hrl := roots_len sm
      (focus (refine block_n ?_; refine then_n ?_; refine Wr ?_; refine Tl ?_; refine L_one (Rd.own m0) (ty rfl) ?_))
      refine OPS_keepM [_] M [dObj d] rfl fun h3 hl3 hm3 => ?_
      have hSL : SL h3 2 IDC (.slice p out.length c) out := hO.sl hl3 IDC_mono hm3 (by omega)
      clear hO
      have hsl := setL_length out
      (focus (refine S_w rfl rfl rfl (W_callF [] _ (set_s ‹_›) rfl rfl ⟨_, _, rfl, rfl, rfl⟩ (cal rfl) rfl ?_); rintro h28_1 m28_1 _ l28_1 ⟨p28_1, q28_1, rfl, o28_1⟩; replace hSL := hSL.up l28_1; refine S_q rfl rfl rfl (Q_build rfl (by decide +kernel) (zer rfl) rfl rfl) ?_; refine S_c rfl rfl rfl (C_buildSlice rfl (elm rfl) (zer rfl) rfl ⟨_, _, _, rfl, rfl, rfl, rfl, rfl, rfl⟩ rfl rfl ?_); intro b28_2))
      (focus (refine OPS_keepM [] [_] _ rfl ?_; rintro h29_k l29_k k29_k; have a29_k := at_of_keep k29_k; clear k29_k; replace o28_1 := o28_1.up l29_k; replace hSL := hSL.up l29_k))
      refine OPS_keepM [] m28_1 _ rfl fun h4 hl4 hm4 => ?_
      have hS2 : SL h4 2 IDC (.slice p28_1 (setL out).length q28_1) (setL out) := o28_1.sl hl4 IDC_mono hm4 (by omega)
      have hS3 : SL h4 2 IDC (.slice (some ⟨b28_2, 0, none⟩) 1 1) [(0, 0)] := slb_of_at (a29_k.up hl4) (Flat.one rfl rfl rfl) (by simp)
      clear hSL
      (focus (refine S_w rfl rfl rfl (W_callF [] _ (minus_s ‹_› ‹_›) rfl rfl ⟨_, _, rfl, ⟨_, _, rfl, rfl, rfl⟩, rfl⟩ (cal rfl) rfl ?_); rintro h30_1 m30_1 _ l30_1 ⟨p30_1, q30_1, rfl, o30_1⟩; replace hS2 := hS2.up l30_1; replace hS3 := hS3.up l30_1; refine Tm ?_; refine On ?_; refine WP_ret ?_))
      rw [rootsR, ← hraw] at hrl
      refine nretK [] m30_1 [(b0_3, cells [Value.slice p out.length c] 31)] (by simp) (.inl rfl) rfl ⟨_, _, rfl, rfl, rfl⟩ fun h5 hl5 hm5 => ?_
      rw [rootsR, ← hraw]
      exact ⟨_, _, rfl, o30_1.sl hl5 IDC_mono hm5 (by omega)⟩
    · rintro d e h1 L1 hl1 hx _; exact hx.elim
end Go.Proofs.YtfhoecgiahpddaaGreat
/-
  RULES: cap, an append of zeros to nil (slices.Grow), slices of nil, appends to a slice that nobody owns.
-/
set_option linter.all false
namespace Go.Mesh
open Go.RowKit
set_option linter.unusedVariables false
section
variable {P : Program} {r : Option Nat} {h : Frag} {L : Hp} {fr : Fr} {o : Oper} {K : OCont}
theorem Q_cap {c : Call} {x : Operand} {t e : TypeId} {p : Option Addr} {n cap : Nat} (hop : o.op = .call c) (hc : c.callee = .builtin .cap) (ha : c.args = #[x]) (hat : c.argTypes = #[t]) (hx : ev fr x = some (.slice p n cap)) (ht : P.underlying t = some (.slice e)) : QOP P o fr h L (.int .i64 (cap : Int)) :=
  ⟨fun c => by rw [hop]; simp, fun a hal w hw => by
    unfold execOp; rw [hop]
    simp [resolve, hc, ha, hat, invoke, builtin, Builtin.cap_, hal x _ hx, run_underlying' ht, goInt]⟩
/-- nil[:0] -/
theorem Q_slice0 {t e k by_ : Nat} {s x : Operand} {q : IntKind} {i : Int} (hop : o.op = .slice t s none (some x) none) (hs : ev fr s = some (.slice none 0 0)) (he : elemOf? P t = some (e, k, by_)) (hx : ev fr x = some (.int q i)) (hi : i = 0) :
    QOP P o fr h L (.slice none 0 0) := by
  subst hi
  exact ⟨fun c => by rw [hop]; simp, fun a ha w _ => by
    obtain ⟨hu, i0, hi0, hk, _⟩ := elemOf?_spec he
    unfold execOp; rw [hop]
    simp [ha s _ hs, ha x _ hx, Instr.sliceAt, run_underlying' hu, Instr.slice, Instr.sliceBounds, Instr.sliceBound, asIntOf, sizeOf, typeInfo, hi0]⟩
/-- a call that needs nothing owned and hands out owned blocks -/
theorem C_callF {c : Call} {f : FuncId} {vs : List Value} {R : OCont} (x : FSpec P f vs.toArray h [] R) (hop : o.op = .call c) (hc : c.callee = .value (.func f)) (hvs : evs fr c.args.toList vs) (hcal : callOk P f = true) (k : ∀ h' M v, le h h' → R h' M v → K h' M v) : OPc P r o fr h L K := by
  obtain ⟨fn, hfn, hn, hb⟩ := callOk_spec hcal
  exact OPc_call (first := #[]) (cap := #[]) (R := R) hop hc rfl hvs hfn hn hb (by simpa using x) fun h' L' v hl q => k h' L' v hl q
/-- append(nil, make([]T, n)...) -/
theorem C_appZ {c : Call} {s x : Operand} {t tn e k by_ : Nat} (n : Nat) {kn : IntKind} {i : Int} {z : List Value} (hop : o.op = .call c) (hc : c.callee = .builtin .append) (ha : c.args = #[s, x]) (hat : c.argTypes = #[t, tn])
    (hs : ev fr s = some (.slice none 0 0)) (hx : ev fr x = some (.int kn i)) (hi0 : i = (n : Int)) (he : elemOf? P t = some (e, k, by_)) (hz : zeroOf P e = some z) (hzk : z.length = k) (htn : P.underlying tn = some (.int .i64)) (h0 : 0 < n) (hk0 : 0 < k) (hb : n * by_ ≤ 281474976710656) (h63 : n ≤ 9223372036854775807)
    (kk : ∀ b cap rest, n ≤ cap → rest.length = cap * k → K h [(b, cells rest e)] (.slice (some ⟨b, 0, none⟩) n cap)) : OPc P r o fr h L K := by
  subst hi0
  obtain ⟨hu, i0, hi, hk, hby⟩ := elemOf?_spec he
  obtain ⟨i, zv, hi', hz0, hzc⟩ := zeroOf_spec hz
  rw [hi] at hi'; cases hi'
  intro a hal w hw
  have hr := Go.Lib.run_append_nil_zeros (P := P) w t tn o.type e i0 zv kn .i64 hu htn hi hz0 n h0 (by omega) (by omega) (by rw [hby]; exact hb)
  have hex : (execOp a.eval o).run P w = .ok (.value (.slice (some ⟨w.heap.size, 0, none⟩) n (grownCap w n 0 e))) (w.drew.alloc (.cells (Builtin.zeroCells zv.cells n ++ Builtin.zeroCells zv.cells (grownCap w n 0 e - n)) e)) := by
    unfold execOp; rw [hop]
    simp [resolve, hc, ha, hat, invoke, builtin, hal s _ hs, hal x _ hx, hr]
  have hge := grownCap_ge w n 0 e
  refine wpIn_of_value (fun c' => by rw [hop]; simp) hex ⟨h, [(w.heap.size, cells (Builtin.zeroCells zv.cells n ++ Builtin.zeroCells zv.cells (grownCap w n 0 e - n)).toList e)], _, rfl, kk _ _ _ hge ?_, ?_⟩
  · simp [size_zeroCells, hzc, hzk, ← Nat.add_mul]; congr 1; omega
  · have hx := ext_drew_alloc hw (.cells (Builtin.zeroCells zv.cells n ++ Builtin.zeroCells zv.cells (grownCap w n 0 e - n)) e)
    have hob : (Obj.cells (Builtin.zeroCells zv.cells n ++ Builtin.zeroCells zv.cells (grownCap w n 0 e - n)) e) = cells (Builtin.zeroCells zv.cells n ++ Builtin.zeroCells zv.cells (grownCap w n 0 e - n)).toList e := by simp [cells]
    rw [hob] at hx ⊢
    exact hx
end
end Go.Mesh
/-
  A REGION THAT DRAWS ITS ORDER, SECOND PART: an operation that reads only what nobody writes may be taken first whatever the others do; two operations that are ready at once.
-/
set_option linter.all false
namespace Go.Mesh
open Go.RowKit
set_option linter.unusedVariables false
section
variable {P : Program} {r : Option Nat} {N : Nat} {D : List Nat} {ops : Array Oper}
def tameOp : Op → Bool
  | .defer _ => false
  | .select .. => false
  | _ => true
theorem tameOp_defer {o : Op} (h : tameOp o = true) : ∀ c, o ≠ .defer c := fun c e => by subst e; cases h
theorem tameOp_select {o : Op} (h : tameOp o = true) : ∀ c b, o ≠ .select c b := fun c b e => by subst e; cases h
theorem sees_pers {h h' : Frag} {L' : Hp} (hl : le h h') (w : World) (s : Sees h' L' w) : Sees h [] w := ⟨fun b o e => s.pers b o (hl b o e), by simp⟩
theorem STEPa_putP {j : Nat} {oi oj : Oper} {v : Value} {a : Act} {h0 h : Frag} {L : Hp} {KK : Act → Frag → Hp → Prop} (h00 : le h0 h) (hj : ops[j]? = some oj) (hap : oi.apart ops oj = true) (hcj : tameOp oj.op = true) (hsi : ∀ cs b, oi.op ≠ .select cs b)
    (y : Yv P ops oi v a h0 []) (x : STEPa P r ops j (a.put oi.dst v) h L KK) : STEPa P r ops j a h L (fun a' h' L' => le h0 h' ∧ Yv P ops oi v a' h0 [] ∧ KK (a'.put oi.dst v) h' L') := by
  obtain ⟨h1, h2, h3⟩ := Oper.apart_spec hap
  unfold STEPa at *
  simp only [hj] at *
  rw [wanted_put oj a oi.dst v h1] at x
  split
  · rename_i hw
    simp only [hw, if_true] at x
    intro w hh
    have xx := x w hh
    refine ⟨fun _ _ => trivial, ?_⟩
    have hx := xx.2
    rw [Oper.semAt_eq _ _ _ (tameOp_defer hcj)] at hx ⊢
    rw [execOp_put oj (tameOp_select hcj) a oi.dst v h1] at hx
    have key : ∀ (u : Value) (w' : World), (∃ h' L', KK ((a.put oi.dst v).put oj.dst u) h' L' ∧ Ext h L w h' L' w' ∧ (calmOp oj.op = true → ∀ w1, Sees h' L' w1 → Sees h L w1)) →
        ∃ h' L', (le h0 h' ∧ Yv P ops oi v (a.put oj.dst u) h0 [] ∧ KK ((a.put oj.dst u).put oi.dst v) h' L') ∧ Ext h L w h' L' w' ∧ (calmOp oj.op = true → ∀ w1, Sees h' L' w1 → Sees h L w1) := by
      rintro u w' ⟨h', L', k, e, hc⟩
      refine ⟨h', L', ⟨le_trans h00 e.le, y.keep hsi h3 (fun _ s => s), ?_⟩, e, hc⟩
      rw [← Act.put_comm a v u h2]; exact k
    revert hx
    cases hres : (execOp a.eval oj).run P w with
    | ok z w' =>
      intro hx
      cases z <;> simp only [Oper.uponIn] at hx ⊢ <;>
        first
          | exact key _ _ hx
          | exact ⟨hx.1, CallsIn.mono hx.2 (fun e w'' he => by cases e <;> first | exact key _ _ he | exact he)⟩
          | exact ⟨hx.1, RowsIn.mono hx.2 (fun _ _ he => key _ _ he)⟩
          | exact ⟨hx.1, RoundIn.mono hx.2 (fun e w'' he => by cases e <;> first | exact key _ _ he | exact he)⟩
          | skip
      case defer d =>
        rw [Act.defers_put, Act.put_defers] at hx
        obtain ⟨h', L', k, e, hc⟩ := hx
        refine ⟨h', L', ⟨le_trans h00 e.le, ?_, ?_⟩, e, hc⟩
        · exact Yv.keep (a := { a with defers := d :: a.defers }) hsi h3 y (fun _ s => s)
        · rw [← Act.put_comm { a with defers := d :: a.defers } v undef h2]; exact k
    | halt z w' =>
      intro hx
      cases z <;> simp only [Oper.uponIn] at hx ⊢ <;> exact hx
  · rename_i hw
    simp only [hw] at x
    exact ⟨h00, y.keep hsi h3 (fun _ s => s), by rw [← Act.put_comm a v undef h2]; exact x⟩
theorem YvP.step {i : Nat} {o : Oper} {v : Value} {a : Act} {h0 h : Frag} {L : Hp} {KK : Act → Frag → Hp → Prop} (h00 : le h0 h) (hi : ops[i]? = some o) (y : Yv P ops o v a h0 []) (k : KK (a.put o.dst v) h L) : STEPa P r ops i a h L KK := by
  refine Yv.step hi ?_ k
  exact y.imp (fun ⟨a1, a2, a3⟩ => ⟨a1, a2, fun w hw => a3 w (sees_pers h00 w hw)⟩) id
theorem ANYa_firstP {E : Act → Frag → Hp → Prop} {h0 : Frag} {i : Nat} {oi : Oper} {v : Value} (hi : ops[i]? = some oi) (hsi : ∀ cs b, oi.op ≠ .select cs b) :
    ∀ (fuel : Nat) (listed : Array Bool) (a : Act) (h : Frag) (L : Hp), le h0 h → Closed ops listed →
      (∀ j oj, ops[j]? = some oj → j ≠ i → listed.getD j true = false → anc ops i ops.size j = false → oi.apart ops oj = true ∧ tameOp oj.op = true) →
      i ∈ Region.ready .any ops listed → Yv P ops oi v a h0 [] → ANYa P r ops E fuel (listed.setIfInBounds i true) (a.put oi.dst v) h L → ANYa P r ops E (fuel + 1) listed a h L := by
  intro fuel
  induction fuel with
  | zero =>
    intro listed a h L h00 _ _ hr hy H
    refine ⟨fun e => (by rw [e] at hr; cases hr), fun j hj => ?_⟩
    by_cases hji : j = i
    · subst hji; exact YvP.step h00 hi hy H
    · have := ready_mono hj hji
      rw [H.1] at this
      cases this
  | succ fuel ih =>
    intro listed a h L h00 hc hfree hr hy H
    refine ⟨fun e => (by rw [e] at hr; cases hr), fun j hj => ?_⟩
    by_cases hji : j = i
    · subst hji; exact YvP.step h00 hi hy H
    · have h1 := H.2 j (ready_mono hj hji)
      obtain ⟨hjun, oj, hoj, hall⟩ := mem_ready.1 hj
      have hiun := (mem_ready.1 hr).1
      have hnl : listed.getD i false ≠ true := fun e => by
        rcases Nat.lt_or_ge i listed.size with h' | h'
        · simp [h'] at hiun e; rw [hiun] at e; cases e
        · simp [Array.getElem?_eq_none h'] at e
      have hanc : anc ops i ops.size j = false := by
        cases ha : anc ops i ops.size j with
        | false => rfl
        | true => exact absurd (anc_listed hc _ _ oj hoj hall ha) hnl
      obtain ⟨hap, hcj⟩ := hfree j oj hoj hji hjun hanc
      have h2 := STEPa_putP h00 hoj hap hcj hsi hy h1
      have hc' : Closed ops (listed.setIfInBounds j true) := by
        intro k o ho hl e he hb
        by_cases hjk : j = k
        · subst hjk
          rw [hoj] at ho; cases ho
          exact getD_set_true (hall e he hb)
        · rw [getD_set_ne false hjk] at hl
          exact getD_set_true (hc k o ho hl e he hb)
      have hfree' : ∀ k ok, ops[k]? = some ok → k ≠ i → (listed.setIfInBounds j true).getD k true = false → anc ops i ops.size k = false → oi.apart ops ok = true ∧ tameOp ok.op = true := fun k ok hk hki hun hno => by
        refine hfree k ok hk hki ?_ hno
        by_cases hjk : j = k
        · subst hjk; exact hjun
        · rw [getD_set_ne true hjk] at hun; exact hun
      refine STEPa.mono (fun a' h' L' h3 => ih (listed.setIfInBounds j true) a' h' L' h3.1 hc' hfree' (ready_mono hr (Ne.symm hji)) h3.2.1 ?_) h2
      rw [Array.setIfInBounds_comm _ _ hji]
      exact h3.2.2
/-- i may be taken first, if it reads only what nobody writes -/
def firstP (ops : Array Oper) (listed : Array Bool) (i : Nat) : Bool :=
  closedB ops listed && (match ops[i]? with
    | none => false
    | some oi => tameOp oi.op && (List.range ops.size).all fun j => j == i || listed.getD j true || anc ops i ops.size j || (match ops[j]? with | none => true | some oj => oi.apart ops oj && tameOp oj.op)) && (Region.ready .any ops listed).contains i
variable {h : Frag} {L : Hp} {fr : Fr} {C : Frag → Hp → Fr → Prop} {fuel n m m' : Nat} {l : List Oper} {o : Oper}
theorem firstP_parts {listed : Array Bool} {i : Nat} {o : Oper} (hi : ops[i]? = some o) (hf : firstP ops listed i = true) : Closed ops listed ∧ (∀ cs b, o.op ≠ .select cs b) ∧ i ∈ Region.ready .any ops listed ∧
    (∀ j oj, ops[j]? = some oj → j ≠ i → listed.getD j true = false → anc ops i ops.size j = false → o.apart ops oj = true ∧ tameOp oj.op = true) := by
  unfold firstP at hf
  simp only [Bool.and_eq_true, hi] at hf
  obtain ⟨⟨h1, h2, h3⟩, h4⟩ := hf
  refine ⟨closed_of h1, tameOp_select h2, by simpa using h4, fun j oj hj hne hun han => ?_⟩
  rw [List.all_eq_true] at h3
  have := h3 j (List.mem_range.2 (Array.getElem?_eq_some_iff.1 hj).1)
  simp only [hj, hun, han, Bool.or_false, Bool.or_eq_true, beq_iff_eq, Bool.and_eq_true] at this
  rcases this with h | h
  · exact absurd h hne
  · exact h
theorem A_qp {v : Value} {d i : Nat} (hd : o.dst = some d) (hN : Nat.blt d N = true) (hg : o.guard = none) (q : QOP P o fr h [] v) (hm : m ||| 2 ^ i = m') (hf : firstP l.toArray (lst n m) i = true)
    (x : ANY P r N D l.toArray fuel (lst n m') h L ((d, v) :: fr) C) : ANYo P r N D l (fuel + 1) n m i o h L fr C := by
  intro hi a fa
  obtain ⟨h1, h2, h3, h4⟩ := firstP_parts hi hf
  have x' := x (a.put o.dst v) (by have := fa.put (dst := o.dst) (dstOk_of hd hN) v; rw [hd] at this ⊢; exact this)
  rw [← lst_set hm] at x'
  exact ANYa_firstP (h0 := h) hi h2 fuel (lst n m) a h L (le_refl _) h1 h4 h3 (.inl ⟨by simp [Region.wanted, hg], q.1, q.2 a (fun _ _ e => fa.eval e)⟩) x'
theorem A_loadp {d i b off : Nat} {t : TypeId} {p : Operand} (hop : o.op = .load t p) (hp : ev fr p = some (ptr b off)) (hd : o.dst = some d) (hN : Nat.blt d N = true) (hg : o.guard = none) (hm : m ||| 2 ^ i = m') (hf : firstP l.toArray (lst n m) i = true)
    (x : LG P h [] b off t (fun v => ANY P r N D l.toArray fuel (lst n m') h L ((d, v) :: fr) C)) : ANYo P r N D l (fuel + 1) n m i o h L fr C :=
  let ⟨_, q, k⟩ := x; A_qp hd hN hg (Q_loadL hop hp q) hm hf k
/-- two are ready: each may be the next -/
theorem A_two (i j : Nat) {oi oj : Oper} {mi mj : Nat} (hi : nth l i = some oi) (hj : nth l j = some oj) (hr : Region.ready .any l.toArray (lst n m) = [i, j]) (hmi : m ||| 2 ^ i = mi) (hmj : m ||| 2 ^ j = mj)
    (x : STEP P r N D l.toArray i h L fr (fun h' L' fr' => ANY P r N D l.toArray fuel (lst n mi) h' L' fr' C)) (y : STEP P r N D l.toArray j h L fr (fun h' L' fr' => ANY P r N D l.toArray fuel (lst n mj) h' L' fr' C)) : ANY P r N D l.toArray (fuel + 1) (lst n m) h L fr C :=
  have _ := hi
  have _ := hj
  ANY_two i j hr (by rw [lst_set hmi]; exact x) (by rw [lst_set hmj]; exact y)
theorem T_c {d i : Nat} (hi : nth l i = some o) (hd : o.dst = some d) (hN : Nat.blt d N = true) (hg : o.guard = none) {C' : Frag → Hp → Fr → Prop} (x : OPc P r o fr h L (fun h' M v => C' h' (M ++ L) ((d, v) :: fr))) : STEP P r N D l.toArray i h L fr C' :=
  STEP_c (by rw [nth_eq] at hi; simpa using hi) hg (dstOk_of hd hN) (by rw [hd]; exact x)
theorem T_w {d i : Nat} (hi : nth l i = some o) (hd : o.dst = some d) (hN : Nat.blt d N = true) (hg : o.guard = none) (hc : calmOp o.op = false) {C' : Frag → Hp → Fr → Prop} (x : OPw P r o fr h L (fun h' L' v => C' h' L' ((d, v) :: fr))) : STEP P r N D l.toArray i h L fr C' :=
  STEP_w (by rw [nth_eq] at hi; simpa using hi) hg hc (dstOk_of hd hN) (by rw [hd]; exact x)
/-- owned blocks that an operation only reads -/
theorem OPw_keepM {K : OCont} (A M B : Hp) (hL : L = A ++ (M ++ B)) (x : ∀ h', le h h' → (∀ p, p ∈ M → h' p.1 = some p.2) → OPw P r o fr h' (A ++ B) K) : OPw P r o fr h L K := by
  subst hL
  intro a ha w hw
  obtain ⟨h', e0, hm⟩ := keepAt hw
  exact Oper.wpIn_mono (fun _ _ ⟨h2, L', v, e, k, e1⟩ => ⟨h2, L', v, e, k, e0.trans e1⟩) (x h' e0.le hm a ha w e0.holds)
end
end Go.Mesh
