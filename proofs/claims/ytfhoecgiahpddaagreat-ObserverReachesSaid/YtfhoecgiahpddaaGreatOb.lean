/-
  CONTRACTS: observer.Roots, observer.Reachable.
-/
import Derived.Test.YtfhoecgiahpddaaGreatOa
set_option linter.all false
namespace Go.Proofs.YtfhoecgiahpddaaGreat
open Go.Mesh Go.RowKit
set_option maxRecDepth 100000
set_option linter.unusedVariables false
set_option maxHeartbeats 4000000
attribute [local irreducible] WP OPS ANY ANYo LG LV FSpec PSpec QOP OPc OPw thenQ blockQ roundQ roundF retQ retM Rd At SLB OS cmpI orI cmpID namedB valB nodeB kindB validG valAux idxI findG zeroV viewOf vwAt idxOf recv flyB scionOf moveOf numberedOf idOf valueOf mget mput localB carriedB stubOf followF followOf flOf flightsOf flPre setL minusL compactL putI mergeN insN insAll unionR NMap Coll retN bodyS GMap Dfs refsV refsOf reachL movedOf movedG graphParts graphR isMove
/-- the roots of a flight -/
def flightIDs (vs : List View) (i : View × Flight) : List ID :=
  if i.2.msg.kind = 0 then numberedOf vs i.1.machine i.2.to i.2.msg.number :: i.2.msg.args.map (idOf vs i.1.machine i.2.to)
  else if i.2.msg.kind = 17 then [idOf vs i.1.machine i.2.to i.2.msg.ref]
  else if i.2.msg.kind = 1 then i.2.msg.parcel.mail.flatMap fun l => i.2.msg.parcel.id :: l.map (idOf vs i.1.machine i.2.to)
  else []
def mailIDs (m : MailE) : List ID := m.to :: refsV m.args
def viewIDs (v : View) : List ID := v.names ++ v.mail.flatMap mailIDs
def rawRoots (vs : List View) : List ID := vs.flatMap viewIDs ++ (flightsOf vs).flatMap (flightIDs vs)
def rootsR (vs : List View) : List ID := minusL (setL (rawRoots vs)) [(0, 0)]
theorem flightIDs_len {vs : List View} (s : Small vs) {i : View × Flight} (hi : i ∈ flightsOf vs) : (flightIDs vs i).length ≤ 28 := by
  obtain ⟨hv, hx⟩ := flightsOf_mem hi
  have h1 := s.letter _ hv _ hx
  have h2 := s.pmail _ hv _ hx
  have h3 := flatMap_le (fun l : List Ref => i.2.msg.parcel.id :: l.map (idOf vs i.1.machine i.2.to)) 7 i.2.msg.parcel.mail (fun m hm => by
    have := s.pargs _ hv _ hx m hm
    simp; omega)
  unfold flightIDs
  split
  · simp; omega
  split
  · simp
  split
  · omega
  · simp
theorem viewIDs_len {vs : List View} (s : Small vs) {v : View} (hv : v ∈ vs) : (viewIDs v).length ≤ 48 := by
  have h1 := s.names v hv
  have h2 := s.mail v hv
  have h3 := flatMap_le mailIDs 7 v.mail (fun m hm => by
    have := s.args v hv m hm
    have h4 := refsV_length m.args
    simp [mailIDs]; omega)
  simp only [viewIDs, List.length_append]; omega
theorem pre_len {vs : List View} (s : Small vs) {pre : List (View × Flight)} (h : pre <+: flightsOf vs) : (vs.flatMap viewIDs ++ pre.flatMap (flightIDs vs)).length ≤ 2000 := by
  have h1 := flatMap_le viewIDs 48 vs fun v hv => viewIDs_len s hv
  have h2 := flatMap_le (flightIDs vs) 28 pre fun i hi => flightIDs_len s (h.subset hi)
  have h3 := h.length_le
  have h4 := s.fl
  have h5 := s.len
  simp only [List.length_append]; omega
theorem raw_len {vs : List View} (s : Small vs) : (rawRoots vs).length ≤ 2000 := pre_len s (List.prefix_refl _)
theorem roots_len {vs : List View} (s : Small vs) : (rootsR vs).length ≤ 2000 := by
  have h1 := setL_length (setL (rawRoots vs))
  have h2 := setL_length (rawRoots vs)
  have h3 := raw_len s
  rw [rootsR, minusL]
  exact Nat.le_trans (List.length_filter_le _ _) (by omega)
theorem flatMap_take {α β : Type} (f : α → List β) {l : List α} {k : Nat} {x : α} (hx : l[k]? = some x) : (l.take (k + 1)).flatMap f = (l.take k).flatMap f ++ f x := by
  simp [List.take_add_one, hx]
theorem map_take {α β : Type} (f : α → β) {l : List α} {k : Nat} {x : α} (hx : l[k]? = some x) : (l.take (k + 1)).map f = (l.take k).map f ++ [f x] := by
  simp [List.take_add_one, hx]
theorem flatMap_take_len {vs : List View} (s : Small vs) (k : Nat) : ((vs.take k).flatMap viewIDs).length ≤ 240 := by
  have h1 := flatMap_le viewIDs 48 (vs.take k) fun v hv => viewIDs_len s (List.mem_of_mem_take hv)
  have h2 : (vs.take k).length ≤ 5 := by rw [List.length_take]; have := s.len; omega
  omega
attribute [local irreducible] flightIDs mailIDs viewIDs rawRoots rootsR
theorem rootsAdd_s {h : Frag} {p : Option Addr} {c : Nat} {out : List ID} {M : Hp} {b4 b3 b13 b14 : Nat} {cs us ws : List Value} {vs : List View} {mf mt : Int} {l : Value} {rs : List Ref}
    (h3 : At h b3 0 cs) (hf : FleetC h vs cs) (h13 : At h b13 0 (.int .i64 mf :: us)) (h14 : At h b14 0 (.int .i64 mt :: ws)) (hl : SL h 8 RefC l rs) (ho : OS h 35 2 IDC (.slice p out.length c) out M) (hb : out.length + rs.length ≤ 1000000) :
    FSpec Tryz.prog 38 #[l, ptr b4 0, ptr b3 0, ptr b13 0, ptr b14 0] h ((b4, cells [.slice p out.length c] 31) :: M)
      (fun h' L' _ => h' = h ∧ ∃ p' c' M', L' = (b4, cells [.slice p' (out ++ rs.map (idOf vs mf mt)).length c'] 31) :: M' ∧ OS h 35 2 IDC (.slice p' (out ++ rs.map (idOf vs mf mt)).length c') (out ++ rs.map (idOf vs mf mt)) M') := by
  obtain ⟨pl, cl, rfl⟩ := hl.slice
  obtain ⟨pf, qf, mb, ms, rfl, fv, fm, fq⟩ := hf
  have hf : FleetC h vs [.slice pf vs.length qf, .map (some mb)] := ⟨pf, qf, mb, ms, rfl, fv, fm, fq⟩
  clear fq fm fv
  rw [show (b4, cells [Value.slice p out.length c] 31) :: M = (b4, cells [Value.slice p out.length c] 31) :: (M ++ []) by rw [List.append_nil]]
  refine spec_of (vs := [.slice pl rs.length cl, ptr b4 0, ptr b3 0, ptr b13 0, ptr b14 0]) Tryz.func38 Tryz.ntmps38 rfl rfl rfl ?_
  (focus (refine WP_seq ?_; refine R_region ?_; refine S_q rfl rfl rfl (Q_move rfl rfl) ?_; refine S_q rfl rfl rfl (Q_len rfl rfl rfl rfl rfl rfl) ?_; refine S_q rfl rfl rfl (Q_move rfl rfl) ?_; refine OPS_nil ?_; refine then_n ?_; refine WP_block ?_))
  (refine WP_loopF (α := Nat × List ID × Option Addr × Nat × Hp) [9, 8, 1, 2, 3, 4] (fun (s : Nat × List ID × Option Addr × Nat × Hp) => rs.length - s.1) (fun (s : Nat × List ID × Option Addr × Nat × Hp) => (b4, cells [.slice s.2.2.1 s.2.1.length s.2.2.2.1] 31) :: (s.2.2.2.2 ++ [])) (fun (s : Nat × List ID × Option Addr × Nat × Hp) => [(10, .int .i64 (s.1 : Int))]) (fun hh (s : Nat × List ID × Option Addr × Nat × Hp) => hh = h ∧ s.1 ≤ rs.length ∧ s.2.1 = out ++ (rs.take s.1).map (idOf vs mf mt) ∧ OS h 35 2 IDC (.slice s.2.2.1 s.2.1.length s.2.2.2.1) s.2.1 s.2.2.2.2) (0, out, p, c, M) ⟨_, _, rfl, ⟨_, _, rfl, ⟨_, _, rfl, ⟨_, _, rfl, ⟨_, _, rfl, ⟨_, _, rfl, rfl, rfl⟩, rfl⟩, rfl⟩, rfl⟩, rfl⟩, rfl⟩ ?_ (by repeat' (first | exact List.Sublist.refl _ | exact List.sublist_append_left _ _ | exact List.nil_sublist _ | apply List.Sublist.cons₂ | apply List.Sublist.cons)) (by repeat' (first | exact trivial | refine ⟨rfl, ?_⟩)) ?_)
  · exact ⟨rfl, Nat.zero_le _, by simp, ho⟩
  rintro h1 ⟨k, oo, p1, c1, M1⟩ _ ⟨rfl, hk, hoe, hO⟩
  simp only at hk hoe hO
  dsimp only
  have hol : oo.length = out.length + k := by rw [hoe]; simp; omega
  by_cases hlt : k < rs.length
  · obtain ⟨r, er⟩ := get_of hlt
    have hmt := map_take (idOf vs mf mt) er
    (focus (refine WP_seq ?_; refine R_region ?_; refine S_q rfl rfl rfl (Q_cmp rfl rfl rfl rfl) ?_; refine OPS_nil ?_; refine then_n ?_; refine WP_seq ?_; refine WP_cond rfl (fun c2_1 => ?_) (fun c2_1 => ?_) <;> (first | (simp [*] at c2_1; done) | (try simp at c2_1)); refine WP_skip ?_; refine then_n ?_; refine WP_seq ?_; refine WP_block ?_; refine WP_seq ?_; refine R_region ?_; refine S_q rfl rfl rfl (Q_indexS (by assumption) (by assumption) rfl rfl rfl (elm rfl) rfl) ?_; refine S_load rfl rfl rfl rfl rfl ?_; refine L_elA (by assumption) (by assumption) (ty rfl) ?_; rintro _ _ _ rfl; refine S_c rfl rfl rfl (C_alloc rfl (zer rfl) ?_); intro b2_3; refine S_w0 rfl rfl (W_all rfl rfl rfl (ty rfl) u0 (by first | rfl | assumption) (by first | rfl | assumption) (by first | rfl | assumption | exact ones_sub (by assumption) _ _) ?_); refine OPS_nil ?_; refine then_n ?_; refine R_draw (n := 11) mixed rfl ?_; refine A_at 0 rfl rfl ?_; refine A_load (m' := 1) rfl rfl rfl rfl rfl rfl (by decide +kernel) ?_; refine L_one (Rd.own m1) (ty rfl) ?_; refine A_at 1 rfl rfl ?_; refine A_load (m' := 3) rfl rfl rfl rfl rfl rfl (by decide +kernel) ?_; refine L_agg (Rd.pers (by assumption)) (ty rfl) (by first | rfl | assumption) ?_; refine A_at 2 rfl rfl ?_; refine A_q (m' := 7) rfl rfl rfl (Q_fieldAddr rfl rfl (fld rfl rfl)) rfl (by decide +kernel) ?_; refine A_at 3 rfl rfl ?_; refine A_load (m' := 15) rfl rfl rfl rfl rfl rfl (by decide +kernel) ?_; refine L_fld (Rd.pers (by assumption)) (ty rfl) rfl ?_; refine A_at 4 rfl rfl ?_; refine A_q (m' := 31) rfl rfl rfl (Q_fieldAddr rfl rfl (fld rfl rfl)) rfl (by decide +kernel) ?_; refine A_at 5 rfl rfl ?_; refine A_load (m' := 63) rfl rfl rfl rfl rfl rfl (by decide +kernel) ?_; refine L_fld (Rd.pers (by assumption)) (ty rfl) rfl ?_; refine A_at 6 rfl rfl ?_; refine A_load (m' := 127) rfl rfl rfl rfl rfl rfl (by decide +kernel) ?_; refine L_agg (Rd.own m0) (ty rfl) (by first | rfl | assumption) ?_; refine A_at 7 rfl rfl ?_; refine A_c (m' := 255) rfl rfl rfl rfl (by decide +kernel) (C_callv (id_s (by assumption)) rfl rfl ⟨_, _, rfl, ⟨_, _, rfl, ⟨_, _, rfl, ⟨_, _, rfl, rfl, rfl⟩, rfl⟩, rfl⟩, rfl⟩ (cal rfl) ?_); refine A_at 8 rfl rfl ?_; refine A_c (m' := 511) rfl rfl rfl rfl (by decide +kernel) (C_buildSlice rfl (elm rfl) (zer rfl) rfl ⟨_, _, _, rfl, rfl, rfl, rfl, rfl, rfl⟩ rfl rfl ?_); intro b2_4; refine A_at 9 rfl rfl ?_; refine A_w (m' := 1023) rfl rfl rfl rfl rfl (by decide +kernel) (W_app1 [_, _] _ (by assumption) rfl rfl rfl rfl rfl rfl (elm rfl) (zer rfl) rfl rfl rfl rfl rfl (by (try simp only [List.length_append, List.length_cons, List.length_nil]); omega) (by (try simp only [List.length_append, List.length_cons, List.length_nil]); omega) ?_); rintro p2_5 q2_5 m2_5 o2_5; refine A_at 10 rfl rfl ?_; refine A_w0 (m' := 2047) rfl rfl rfl rfl (by decide +kernel) (W_one rfl rfl rfl (ty rfl) u1 rfl rfl rfl ?_); refine A_done (by decide +kernel) ?_; refine block_n ?_; refine then_n ?_; refine R_region ?_; refine S_q rfl rfl rfl (Q_add rfl rfl rfl (by omega)) ?_; refine S_q rfl rfl rfl (Q_move rfl rfl) ?_; refine OPS_nil ?_))
    refine roundF_n (k + 1, oo ++ [idOf vs mf mt r], p2_5, q2_5, m2_5) (by simp only; omega) ⟨rfl, by simp only; omega, ?_, o2_5⟩ (by repeat' (first | exact List.Sublist.refl _ | exact List.sublist_append_left _ _ | exact List.nil_sublist _ | apply List.Sublist.cons₂ | apply List.Sublist.cons)) (by repeat' (first | exact trivial | refine ⟨rfl, ?_⟩))
    simp only; rw [hmt, hoe, List.append_assoc]
  · have hge : k = rs.length := by omega
    subst hge
    rw [List.take_length] at hoe
    subst hoe
    (focus (refine WP_seq ?_; refine R_region ?_; refine S_q rfl rfl rfl (Q_cmp rfl rfl rfl rfl) ?_; refine OPS_nil ?_; refine then_n ?_; refine WP_seq ?_; refine WP_cond rfl (fun c3_1 => ?_) (fun c3_1 => ?_) <;> (first | (simp [*] at c3_1; done) | (try simp at c3_1)); refine WP_exit ?_; refine then_e ?_; refine roundF_e ?_; refine block_e ?_))
    exact ret_q (_ :: M1) (.inr rfl) rfl rfl (by simp) ⟨rfl, p1, c1, M1, rfl, hO⟩
theorem roots_s {h : Frag} {a : Value} {vs : List View} (hs : SL h 13 (ViewC 4398046511104) a vs) (sm : Small vs) : PSpec Tryz.prog 13 #[a] h (fun h' v => ∃ p c, v = .slice p (rootsR vs).length c ∧ SL h' 2 IDC (.slice p (rootsR vs).length c) (rootsR vs)) := by
  have hlen := sm.len
  obtain ⟨pv, cv, rfl⟩ := hs.slice
  refine pspec_ofN (vs := [.slice pv vs.length cv]) Tryz.func13 Tryz.ntmps13 rfl rfl ?_
  (focus (refine WP_seq ?_; refine R_region ?_; refine S_q rfl rfl rfl (Q_assign rfl rfl) ?_; refine OPS_nil ?_; refine then_n ?_; refine WP_seq ?_; refine R_region ?_; refine S_q rfl rfl rfl (Q_move rfl rfl) ?_; refine S_c rfl rfl rfl (C_call (of_s (by assumption)) rfl rfl ⟨_, _, rfl, rfl, rfl⟩ (cal rfl) ?_); rintro h0_1 _ l0_1 ⟨pf0_1, qf0_1, mb0_1, rfl, ff0_1⟩; replace hs := hs.up l0_1; refine S_c rfl rfl rfl (C_alloc rfl (zer rfl) ?_); intro b0_2; refine S_w0 rfl rfl (W_all rfl rfl rfl (ty rfl) u0 (by first | rfl | assumption) (by first | rfl | assumption) (by first | rfl | assumption | exact ones_sub (by assumption) _ _) ?_); refine OPS_nil ?_; refine then_n ?_; refine WP_seq ?_; refine R_region ?_; refine S_c rfl rfl rfl (C_alloc rfl (zer rfl) ?_); intro b0_3; refine OPS_nil ?_; refine then_n ?_; refine WP_seq ?_; refine WP_seq ?_; refine R_region ?_; refine S_q rfl rfl rfl (Q_move rfl rfl) ?_; refine S_q rfl rfl rfl (Q_len rfl rfl rfl rfl rfl rfl) ?_; refine S_q rfl rfl rfl (Q_move rfl rfl) ?_; refine OPS_nil ?_; refine then_n ?_; refine WP_block ?_))
  (focus (refine WP_keepM [_] [_] _ rfl ?_; rintro h1_k l1_k k1_k; have a1_k := at_of_keep k1_k; clear k1_k; replace ff0_1 := ff0_1.up l1_k; replace hs := hs.up l1_k))
  (refine WP_loopF (α := Nat × List ID × Option Addr × Nat × Hp) [22, 21, 4, 3] (fun (s : Nat × List ID × Option Addr × Nat × Hp) => vs.length - s.1) (fun (s : Nat × List ID × Option Addr × Nat × Hp) => (b0_3, cells [.slice s.2.2.1 s.2.1.length s.2.2.2.1] 31) :: (s.2.2.2.2 ++ [])) (fun (s : Nat × List ID × Option Addr × Nat × Hp) => [(23, .int .i64 (s.1 : Int))]) (fun hh (s : Nat × List ID × Option Addr × Nat × Hp) => hh = h1_k ∧ s.1 ≤ vs.length ∧ s.2.1 = (vs.take s.1).flatMap viewIDs ∧ OS h1_k 35 2 IDC (.slice s.2.2.1 s.2.1.length s.2.2.2.1) s.2.1 s.2.2.2.2) (0, [], none, 0, []) ⟨_, _, rfl, ⟨_, _, rfl, ⟨_, _, rfl, ⟨_, _, rfl, rfl, rfl⟩, rfl⟩, rfl⟩, rfl⟩ ?_ (by repeat' (first | exact List.Sublist.refl _ | exact List.sublist_append_left _ _ | exact List.nil_sublist _ | apply List.Sublist.cons₂ | apply List.Sublist.cons)) (by repeat' (first | exact trivial | refine ⟨rfl, ?_⟩)) ?_)
  · exact ⟨rfl, Nat.zero_le _, rfl, OS.nil _ _ _ _⟩
  rintro h1 ⟨k, out, p, c, M⟩ _ ⟨rfl, hk, hoe, hO⟩
  simp only at hk hoe hO
  dsimp only
  have hol : out.length ≤ 240 := by rw [hoe]; exact flatMap_take_len sm k
  by_cases hlt : k < vs.length
  · obtain ⟨v, ev⟩ := get_of hlt
    have hvm : v ∈ vs := List.mem_of_getElem? ev
    have hn6 := sm.names v hvm
    have hm6 := sm.mail v hvm
    have ha6 := sm.args v hvm
    have hvt := flatMap_take viewIDs ev
    (focus (refine WP_seq ?_; refine R_region ?_; refine S_q rfl rfl rfl (Q_cmp rfl rfl rfl rfl) ?_; refine OPS_nil ?_; refine then_n ?_; refine WP_seq ?_; refine WP_cond rfl (fun c3_1 => ?_) (fun c3_1 => ?_) <;> (first | (simp [*] at c3_1; done) | (try simp at c3_1)); refine WP_skip ?_; refine then_n ?_; refine WP_seq ?_; refine WP_block ?_; refine WP_seq ?_; refine R_region ?_; refine S_q rfl rfl rfl (Q_indexS (by assumption) (by assumption) rfl rfl rfl (elm rfl) rfl) ?_; refine S_load rfl rfl rfl rfl rfl ?_; refine L_elA (by assumption) (by assumption) (ty rfl) ?_; rintro _ _ _ ⟨xi3_2, xa3_2, po3_2, qo3_2, ps3_2, qs3_2, pc3_2, qc3_2, pn3_2, qn3_2, pm3_2, qm3_2, xw3_2, xv3_2, pf3_2, qf3_2, pr3_2, qr3_2, xe3_2, xf3_2, rfl, vo3_2, vs3_2, vc3_2, vn3_2, vm3_2, vf3_2, vr3_2⟩; refine S_c rfl rfl rfl (C_alloc rfl (zer rfl) ?_); intro b3_3; refine S_w0 rfl rfl (W_all rfl rfl rfl (ty rfl) u0 (by first | rfl | assumption) (by first | rfl | assumption) (by first | rfl | assumption | exact ones_sub (by assumption) _ _) ?_); refine OPS_nil ?_; refine then_n ?_; refine WP_seq ?_; refine WP_seq ?_; refine R_region ?_; refine S_q rfl rfl rfl (Q_fieldAddr rfl rfl (fld rfl rfl)) ?_; refine S_load rfl rfl rfl rfl rfl ?_; refine L_fld (Rd.own m0) (ty rfl) rfl ?_; refine S_q rfl rfl rfl (Q_len rfl rfl rfl rfl rfl rfl) ?_; refine S_q rfl rfl rfl (Q_move rfl rfl) ?_; refine OPS_nil ?_; refine then_n ?_; refine WP_block ?_))
    (refine WP_loopM (α := Nat × List ID × Option Addr × Nat × Hp) [_]  _ [29, 28, 6, 23, 22, 21, 4, 3] (fun (s : Nat × List ID × Option Addr × Nat × Hp) => v.names.length - s.1) (fun (s : Nat × List ID × Option Addr × Nat × Hp) =>  ((b0_3, cells [.slice s.2.2.1 s.2.1.length s.2.2.2.1] 31) :: s.2.2.2.2)) (fun (s : Nat × List ID × Option Addr × Nat × Hp) => [(30, .int .i64 (s.1 : Int))]) (fun hh (s : Nat × List ID × Option Addr × Nat × Hp) => hh = h1 ∧ s.1 ≤ v.names.length ∧ s.2.1 = out ++ v.names.take s.1 ∧ OS h1 35 2 IDC (.slice s.2.2.1 s.2.1.length s.2.2.2.1) s.2.1 s.2.2.2.2) (0, out, p, c, M) rfl ⟨_, _, rfl, ⟨_, _, rfl, ⟨_, _, rfl, ⟨_, _, rfl, ⟨_, _, rfl, ⟨_, _, rfl, ⟨_, _, rfl, ⟨_, _, rfl, rfl, rfl⟩, rfl⟩, rfl⟩, rfl⟩, rfl⟩, rfl⟩, rfl⟩, rfl⟩ (by repeat' (first | exact trivial | refine ⟨rfl, ?_⟩)) ?_ ?_)
    · exact ⟨rfl, Nat.zero_le _, by simp, hO⟩
    clear hO M p c
    rintro h2 ⟨j, oo, p, c, M⟩ _ ⟨rfl, hj, hoo, hO⟩
    simp only at hj hoo hO
    dsimp only
    have hool : oo.length ≤ out.length + 6 := by rw [hoo, List.length_append, List.length_take]; omega
    by_cases hlt2 : j < v.names.length
    · obtain ⟨⟨n1, n2⟩, en⟩ := get_of hlt2
      (focus (refine WP_seq ?_; refine R_region ?_; refine S_q rfl rfl rfl (Q_cmp rfl rfl rfl rfl) ?_; refine OPS_nil ?_; refine then_n ?_; refine WP_seq ?_; refine WP_cond rfl (fun c5_1 => ?_) (fun c5_1 => ?_) <;> (first | (simp [*] at c5_1; done) | (try simp at c5_1)); refine WP_skip ?_; refine then_n ?_; refine WP_seq ?_; refine WP_block ?_; refine WP_seq ?_; refine R_region ?_; refine S_q rfl rfl rfl (Q_indexS (by assumption) (by assumption) rfl rfl rfl (elm rfl) rfl) ?_; refine S_load rfl rfl rfl rfl rfl ?_; refine L_elA (by assumption) (by assumption) (ty rfl) ?_; rintro _ _ _ ⟨xa5_2, rfl⟩; refine S_c rfl rfl rfl (C_alloc rfl (zer rfl) ?_); intro b5_3; refine S_w0 rfl rfl (W_all rfl rfl rfl (ty rfl) u0 (by first | rfl | assumption) (by first | rfl | assumption) (by first | rfl | assumption | exact ones_sub (by assumption) _ _) ?_); refine OPS_nil ?_; refine then_n ?_; refine R_region ?_; refine S_load rfl rfl rfl rfl rfl ?_; refine L_one (Rd.own m2) (ty rfl) ?_; refine S_q rfl rfl rfl (Q_fieldAddr rfl rfl (fld rfl rfl)) ?_; refine S_load rfl rfl rfl rfl rfl ?_; refine L_sub (Rd.own m0) (ty rfl) rfl ?_; refine S_c rfl rfl rfl (C_buildSlice rfl (elm rfl) (zer rfl) rfl ⟨_, _, _, rfl, rfl, rfl, rfl, rfl, rfl⟩ rfl rfl ?_); intro b5_4; refine S_w rfl rfl rfl (W_app1 [_, _, _] _ (by assumption) rfl rfl rfl rfl rfl rfl (elm rfl) (zer rfl) rfl rfl rfl rfl rfl (by (try simp only [List.length_append, List.length_cons, List.length_nil]); omega) (by (try simp only [List.length_append, List.length_cons, List.length_nil]); omega) ?_); rintro p5_5 q5_5 m5_5 o5_5; refine S_w0 rfl rfl (W_one rfl rfl rfl (ty rfl) u2 rfl rfl rfl ?_); refine OPS_nil ?_; refine block_n ?_; refine then_n ?_; refine R_region ?_; refine S_q rfl rfl rfl (Q_add rfl rfl rfl (by omega)) ?_; refine S_q rfl rfl rfl (Q_move rfl rfl) ?_; refine OPS_nil ?_))
      refine roundF_n (j + 1, oo ++ [(n1, n2)], p5_5, q5_5, m5_5) (by simp only; omega) ⟨rfl, by simp only; omega, ?_, o5_5⟩ (by repeat' (first | exact List.Sublist.refl _ | exact List.sublist_append_left _ _ | exact List.nil_sublist _ | apply List.Sublist.cons₂ | apply List.Sublist.cons)) (by repeat' (first | exact trivial | refine ⟨rfl, ?_⟩))
      simp only; rw [hoo, List.take_add_one, en]; simp
    · have hge : j = v.names.length := by omega
      subst hge
      rw [List.take_length] at hoo
      (focus (refine WP_seq ?_; refine R_region ?_; refine S_q rfl rfl rfl (Q_cmp rfl rfl rfl rfl) ?_; refine OPS_nil ?_; refine then_n ?_; refine WP_seq ?_; refine WP_cond rfl (fun c6_1 => ?_) (fun c6_1 => ?_) <;> (first | (simp [*] at c6_1; done) | (try simp at c6_1)); refine WP_exit ?_; refine then_e ?_; refine roundF_e ?_; refine block_e ?_; refine then_n ?_; refine WP_seq ?_; refine R_region ?_; refine S_q rfl rfl rfl (Q_fieldAddr rfl rfl (fld rfl rfl)) ?_; refine S_load rfl rfl rfl rfl rfl ?_; refine L_fld (Rd.own m0) (ty rfl) rfl ?_; refine S_q rfl rfl rfl (Q_len rfl rfl rfl rfl rfl rfl) ?_; refine S_q rfl rfl rfl (Q_move rfl rfl) ?_; refine OPS_nil ?_; refine then_n ?_; refine WP_block ?_))
      (refine WP_loopM (α := Nat × List ID × Option Addr × Nat × Hp) [_]  _ [42, 41, 23, 22, 21, 4, 3] (fun (s : Nat × List ID × Option Addr × Nat × Hp) => v.mail.length - s.1) (fun (s : Nat × List ID × Option Addr × Nat × Hp) =>  ((b0_3, cells [.slice s.2.2.1 s.2.1.length s.2.2.2.1] 31) :: s.2.2.2.2)) (fun (s : Nat × List ID × Option Addr × Nat × Hp) => [(43, .int .i64 (s.1 : Int))]) (fun hh (s : Nat × List ID × Option Addr × Nat × Hp) => hh = h2 ∧ s.1 ≤ v.mail.length ∧ s.2.1 = oo ++ (v.mail.take s.1).flatMap mailIDs ∧ OS h2 35 2 IDC (.slice s.2.2.1 s.2.1.length s.2.2.2.1) s.2.1 s.2.2.2.2) (0, oo, p, c, M) rfl ⟨_, _, rfl, ⟨_, _, rfl, ⟨_, _, rfl, ⟨_, _, rfl, ⟨_, _, rfl, ⟨_, _, rfl, ⟨_, _, rfl, rfl, rfl⟩, rfl⟩, rfl⟩, rfl⟩, rfl⟩, rfl⟩, rfl⟩ (by repeat' (first | exact trivial | refine ⟨rfl, ?_⟩)) ?_ ?_)
      · exact ⟨rfl, Nat.zero_le _, by simp, hO⟩
      clear hO M p c
      rintro h3 ⟨i, o3, p, c, M⟩ _ ⟨rfl, hi, ho3, hO⟩
      simp only at hi ho3 hO
      dsimp only
      have ho3l : o3.length ≤ oo.length + 42 := by
        have := flatMap_le mailIDs 7 (v.mail.take i) (fun m hm => by
          have h1 := ha6 m (List.mem_of_mem_take hm)
          have h2 := refsV_length m.args
          simp [mailIDs]; omega)
        rw [List.length_take] at this
        rw [ho3, List.length_append]; omega
      by_cases hlt3 : i < v.mail.length
      · obtain ⟨⟨⟨t1, t2⟩, ag⟩, em⟩ := get_of hlt3
        have hmt := flatMap_take mailIDs em
        have hag : ag.length ≤ 6 := ha6 _ (List.mem_of_getElem? em)
        (focus (refine WP_seq ?_; refine R_region ?_; refine S_q rfl rfl rfl (Q_cmp rfl rfl rfl rfl) ?_; refine OPS_nil ?_; refine then_n ?_; refine WP_seq ?_; refine WP_cond rfl (fun c8_1 => ?_) (fun c8_1 => ?_) <;> (first | (simp [*] at c8_1; done) | (try simp at c8_1)); refine WP_skip ?_; refine then_n ?_; refine WP_seq ?_; refine WP_block ?_; refine WP_seq ?_; refine R_region ?_; refine S_q rfl rfl rfl (Q_indexS (by assumption) (by assumption) rfl rfl rfl (elm rfl) rfl) ?_; refine S_load rfl rfl rfl rfl rfl ?_; refine L_elA (by assumption) (by assumption) (ty rfl) ?_; rintro _ _ _ ⟨xa8_2, xb8_2, xm8_2, pl8_2, ql8_2, rfl, fl8_2⟩; refine S_c rfl rfl rfl (C_alloc rfl (zer rfl) ?_); intro b8_3; refine S_w0 rfl rfl (W_all rfl rfl rfl (ty rfl) u0 (by first | rfl | assumption) (by first | rfl | assumption) (by first | rfl | assumption | exact ones_sub (by assumption) _ _) ?_); refine OPS_nil ?_; refine then_n ?_; refine WP_seq ?_; refine R_region ?_; refine S_load rfl rfl rfl rfl rfl ?_; refine L_one (Rd.own m2) (ty rfl) ?_; refine S_q rfl rfl rfl (Q_fieldAddr rfl rfl (fld rfl rfl)) ?_; refine S_load rfl rfl rfl rfl rfl ?_; refine L_sub (Rd.own m0) (ty rfl) rfl ?_; refine S_c rfl rfl rfl (C_buildSlice rfl (elm rfl) (zer rfl) rfl ⟨_, _, _, rfl, rfl, rfl, rfl, rfl, rfl⟩ rfl rfl ?_); intro b8_4; refine S_w rfl rfl rfl (W_app1 [_, _, _] _ (by assumption) rfl rfl rfl rfl rfl rfl (elm rfl) (zer rfl) rfl rfl rfl rfl rfl (by (try simp only [List.length_append, List.length_cons, List.length_nil]); omega) (by (try simp only [List.length_append, List.length_cons, List.length_nil]); omega) ?_); rintro p8_5 q8_5 m8_5 o8_5; refine S_w0 rfl rfl (W_one rfl rfl rfl (ty rfl) u2 rfl rfl rfl ?_); refine OPS_nil ?_; refine then_n ?_; refine WP_seq ?_; refine R_region ?_; refine S_q rfl rfl rfl (Q_fieldAddr rfl rfl (fld rfl rfl)) ?_; refine S_load rfl rfl rfl rfl rfl ?_; refine L_fld (Rd.own m0) (ty rfl) rfl ?_; refine S_q rfl rfl rfl (Q_len rfl rfl rfl rfl rfl rfl) ?_; refine S_q rfl rfl rfl (Q_move rfl rfl) ?_; refine OPS_nil ?_; refine then_n ?_; refine WP_block ?_))
        (refine WP_loopM (α := Nat × List ID × Option Addr × Nat × Hp) [_, _]  _ [54, 53, 43, 42, 41, 23, 22, 21, 4, 3] (fun (s : Nat × List ID × Option Addr × Nat × Hp) => ag.length - s.1) (fun (s : Nat × List ID × Option Addr × Nat × Hp) =>  ((b0_3, cells [.slice s.2.2.1 s.2.1.length s.2.2.2.1] 31) :: s.2.2.2.2)) (fun (s : Nat × List ID × Option Addr × Nat × Hp) => [(55, .int .i64 (s.1 : Int))]) (fun hh (s : Nat × List ID × Option Addr × Nat × Hp) => hh = h3 ∧ s.1 ≤ ag.length ∧ s.2.1 = (o3 ++ [(t1, t2)]) ++ refsV (ag.take s.1) ∧ OS h3 35 2 IDC (.slice s.2.2.1 s.2.1.length s.2.2.2.1) s.2.1 s.2.2.2.2) (0, o3 ++ [(t1, t2)], p8_5, q8_5, m8_5) rfl ⟨_, _, rfl, ⟨_, _, rfl, ⟨_, _, rfl, ⟨_, _, rfl, ⟨_, _, rfl, ⟨_, _, rfl, ⟨_, _, rfl, ⟨_, _, rfl, ⟨_, _, rfl, ⟨_, _, rfl, rfl, rfl⟩, rfl⟩, rfl⟩, rfl⟩, rfl⟩, rfl⟩, rfl⟩, rfl⟩, rfl⟩, rfl⟩ (by repeat' (first | exact trivial | refine ⟨rfl, ?_⟩)) ?_ ?_)
        · exact ⟨rfl, Nat.zero_le _, by simp [refsV_nil], o8_5⟩
        clear hO M p c
        rintro h4 ⟨r, o4, p, c, M⟩ _ ⟨rfl, hr, ho4, hO⟩
        simp only at hr ho4 hO
        dsimp only
        have ho4l : o4.length ≤ o3.length + 7 := by
          have := refsV_length (ag.take r)
          rw [List.length_take] at this
          rw [ho4]; simp only [List.length_append, List.length_cons, List.length_nil]; omega
        by_cases hlt4 : r < ag.length
        · obtain ⟨⟨f1, f2, i1, i2⟩, ex⟩ := get_of hlt4
          have htk := refsV_take ex
          (focus (refine WP_seq ?_; refine R_region ?_; refine S_q rfl rfl rfl (Q_cmp rfl rfl rfl rfl) ?_; refine OPS_nil ?_; refine then_n ?_; refine WP_seq ?_; refine WP_cond rfl (fun c10_1 => ?_) (fun c10_1 => ?_) <;> (first | (simp [*] at c10_1; done) | (try simp at c10_1)); refine WP_skip ?_; refine then_n ?_; refine WP_seq ?_; refine WP_block ?_; refine WP_seq ?_; refine R_region ?_; refine S_q rfl rfl rfl (Q_indexS (by assumption) (by assumption) rfl rfl rfl (elm rfl) rfl) ?_; refine S_load rfl rfl rfl rfl rfl ?_; refine L_elA (by assumption) (by assumption) (ty rfl) ?_; rintro _ _ _ rfl; refine S_c rfl rfl rfl (C_alloc rfl (zer rfl) ?_); intro b10_3; refine S_w0 rfl rfl (W_all rfl rfl rfl (ty rfl) u0 (by first | rfl | assumption) (by first | rfl | assumption) (by first | rfl | assumption | exact ones_sub (by assumption) _ _) ?_); refine OPS_nil ?_; refine then_n ?_; refine WP_seq ?_; refine R_region ?_; refine S_q rfl rfl rfl (Q_fieldAddr rfl rfl (fld rfl rfl)) ?_; refine S_load rfl rfl rfl rfl rfl ?_; refine L_fld (Rd.own m0) (ty rfl) rfl ?_; refine S_q rfl rfl rfl (Q_cmp rfl rfl rfl rfl) ?_; refine OPS_nil ?_; refine then_n ?_; refine WP_cond rfl (fun c10_4 => ?_) (fun c10_4 => ?_) <;> (first | (simp [*] at c10_4; done) | (try simp at c10_4)); (focus (refine R_region ?_; refine S_load rfl rfl rfl rfl rfl ?_; refine L_one (Rd.own m3) (ty rfl) ?_; refine S_q rfl rfl rfl (Q_fieldAddr rfl rfl (fld rfl rfl)) ?_; refine S_load rfl rfl rfl rfl rfl ?_; refine L_sub (Rd.own m0) (ty rfl) rfl ?_; refine S_c rfl rfl rfl (C_buildSlice rfl (elm rfl) (zer rfl) rfl ⟨_, _, _, rfl, rfl, rfl, rfl, rfl, rfl⟩ rfl rfl ?_); intro b10_5; refine S_w rfl rfl rfl (W_app1 [_, _, _, _] _ (by assumption) rfl rfl rfl rfl rfl rfl (elm rfl) (zer rfl) rfl rfl rfl rfl rfl (by (try simp only [List.length_append, List.length_cons, List.length_nil]); omega) (by (try simp only [List.length_append, List.length_cons, List.length_nil]); omega) ?_); rintro p10_6 q10_6 m10_6 o10_6; refine S_w0 rfl rfl (W_one rfl rfl rfl (ty rfl) u3 rfl rfl rfl ?_); refine OPS_nil ?_; refine block_n ?_; refine then_n ?_; refine R_region ?_; refine S_q rfl rfl rfl (Q_add rfl rfl rfl (by omega)) ?_; refine S_q rfl rfl rfl (Q_move rfl rfl) ?_; refine OPS_nil ?_)); rotate_left 1; (focus (refine WP_skip ?_; refine block_n ?_; refine then_n ?_; refine R_region ?_; refine S_q rfl rfl rfl (Q_add rfl rfl rfl (by omega)) ?_; refine S_q rfl rfl rfl (Q_move rfl rfl) ?_; refine OPS_nil ?_)); rotate_left 1))
          · simp only [c10_4, if_true] at htk
            refine roundF_n (r + 1, o4 ++ [(i1, i2)], p10_6, q10_6, m10_6) (by simp only; omega) ⟨rfl, by simp only; omega, ?_, o10_6⟩ (by repeat' (first | exact List.Sublist.refl _ | exact List.sublist_append_left _ _ | exact List.nil_sublist _ | apply List.Sublist.cons₂ | apply List.Sublist.cons)) (by repeat' (first | exact trivial | refine ⟨rfl, ?_⟩))
            simp only; rw [htk, ho4]; simp only [List.append_assoc]
          · simp only [c10_4, if_false, List.append_nil] at htk
            refine roundF_n (r + 1, o4, p, c, M) (by simp only; omega) ⟨rfl, by simp only; omega, ?_, hO⟩ (by repeat' (first | exact List.Sublist.refl _ | exact List.sublist_append_left _ _ | exact List.nil_sublist _ | apply List.Sublist.cons₂ | apply List.Sublist.cons)) (by repeat' (first | exact trivial | refine ⟨rfl, ?_⟩))
            simp only; rw [htk, ho4]
        · have hge : r = ag.length := by omega
          subst hge
          rw [List.take_length] at ho4
          (focus (refine WP_seq ?_; refine R_region ?_; refine S_q rfl rfl rfl (Q_cmp rfl rfl rfl rfl) ?_; refine OPS_nil ?_; refine then_n ?_; refine WP_seq ?_; refine WP_cond rfl (fun c11_1 => ?_) (fun c11_1 => ?_) <;> (first | (simp [*] at c11_1; done) | (try simp at c11_1)); refine WP_exit ?_; refine then_e ?_; refine roundF_e ?_; refine block_e ?_; refine block_n ?_; refine then_n ?_; refine R_region ?_; refine S_q rfl rfl rfl (Q_add rfl rfl rfl (by omega)) ?_; refine S_q rfl rfl rfl (Q_move rfl rfl) ?_; refine OPS_nil ?_))
          refine roundF_n (i + 1, o4, p, c, M) (by simp only; omega) ⟨rfl, by simp only; omega, ?_, hO⟩ (by repeat' (first | exact List.Sublist.refl _ | exact List.sublist_append_left _ _ | exact List.nil_sublist _ | apply List.Sublist.cons₂ | apply List.Sublist.cons)) (by repeat' (first | exact trivial | refine ⟨rfl, ?_⟩))
          simp only; rw [hmt, ho4, ho3, mailIDs]; simp only [List.append_assoc, List.cons_append, List.nil_append]
      · have hge : i = v.mail.length := by omega
        subst hge
        rw [List.take_length] at ho3
        (focus (refine WP_seq ?_; refine R_region ?_; refine S_q rfl rfl rfl (Q_cmp rfl rfl rfl rfl) ?_; refine OPS_nil ?_; refine then_n ?_; refine WP_seq ?_; refine WP_cond rfl (fun c12_1 => ?_) (fun c12_1 => ?_) <;> (first | (simp [*] at c12_1; done) | (try simp at c12_1)); refine WP_exit ?_; refine then_e ?_; refine roundF_e ?_; refine block_e ?_; refine block_n ?_; refine then_n ?_; refine R_region ?_; refine S_q rfl rfl rfl (Q_add rfl rfl rfl (by omega)) ?_; refine S_q rfl rfl rfl (Q_move rfl rfl) ?_; refine OPS_nil ?_))
        refine roundF_n (k + 1, o3, p, c, M) (by simp only; omega) ⟨rfl, by simp only; omega, ?_, hO⟩ (by repeat' (first | exact List.Sublist.refl _ | exact List.sublist_append_left _ _ | exact List.nil_sublist _ | apply List.Sublist.cons₂ | apply List.Sublist.cons)) (by repeat' (first | exact trivial | refine ⟨rfl, ?_⟩))
        simp only; rw [hvt, ho3, hoo, hoe, viewIDs, List.append_assoc]
  · have hge : k = vs.length := by omega
    subst hge
    rw [List.take_length] at hoe
    (focus (refine WP_seq ?_; refine R_region ?_; refine S_q rfl rfl rfl (Q_cmp rfl rfl rfl rfl) ?_; refine OPS_nil ?_; refine then_n ?_; refine WP_seq ?_; refine WP_cond rfl (fun c13_1 => ?_) (fun c13_1 => ?_) <;> (first | (simp [*] at c13_1; done) | (try simp at c13_1)); refine WP_exit ?_; refine then_e ?_; refine roundF_e ?_; refine block_e ?_; refine then_n ?_; refine WP_seq ?_; refine WP_seq ?_; refine R_region ?_; refine S_load rfl rfl rfl rfl rfl ?_; refine L_agg (Rd.pers (by assumption)) (ty rfl) (by first | rfl | assumption) ?_; refine S_c rfl rfl rfl (C_call (flights_s (by assumption)) rfl rfl ⟨_, _, rfl, rfl, rfl⟩ (cal rfl) ?_); rintro h13_2 _ l13_2 ⟨bi13_2, rfl, it13_2⟩; replace a1_k := a1_k.up l13_2; replace ff0_1 := ff0_1.up l13_2; replace hs := hs.up l13_2; replace hO := hO.up l13_2; refine OPS_nil ?_; refine then_n ?_; refine WP_block ?_))
    refine WP_rangeS [] [] (fun s : List ID × Option Addr × Nat × Hp => (b0_3, cells [.slice s.2.1 s.1.length s.2.2.1] 31) :: s.2.2.2)
      (fun pre hh s => le h13_2 hh ∧ s.1 = vs.flatMap viewIDs ++ pre.flatMap (flightIDs vs) ∧ OS hh 35 2 IDC (.slice s.2.1 s.1.length s.2.2.1) s.1 s.2.2.2) (fun _ _ _ => False) (out, p, c, M) it13_2 rfl Tryz.func77 (by decide) rfl (by rintro _ _ _ ⟨_, _, rfl, _⟩; rfl) rfl rfl ⟨le_refl _, by simp [hoe], hO⟩ ?_ ?_ ?_
    · clear hO hol hoe M p c out
      rintro l pre ⟨v, x⟩ _ h2 ⟨out, p, c, M⟩ hl1 ⟨hl2, hoe, hO⟩ hp ⟨us, ws, rfl, hu1, hu2, hu3, hw1, hw2, hw3⟩
      simp only at hoe hO hu3 hw3
      obtain ⟨hvm, hxm⟩ := flightsOf_mem (hp.subset (by simp : (v, x) ∈ pre ++ [(v, x)]))
      have hsn : (pre ++ [(v, x)]).flatMap (flightIDs vs) = pre.flatMap (flightIDs vs) ++ flightIDs vs (v, x) := by simp
      have hol : out.length ≤ 2000 := by rw [hoe]; exact pre_len sm ((List.prefix_append _ _).trans hp)
      have hl6 := sm.letter v hvm x hxm
      have hp6 := sm.pmail v hvm x hxm
      have hq6 := sm.pargs v hvm x hxm
      (replace it13_2 := it13_2.up hl1; replace a1_k := a1_k.up hl1; replace ff0_1 := ff0_1.up hl1; replace hs := hs.up hl1)
      obtain ⟨hi, xa, po, qo, qs, qt, pc, qc, pn, qn, pm, qm, xw, xv, pf, qf, pr, qr, xe, xf, rfl, -⟩ := hu3
      obtain ⟨ya, yb, yc, yd, ye, pa, qa, pg, qg, ph, qh, yw, y1, y2, y3, y4, y5, y6, y7, y8, y9, y10, y11, y12, y13, y14, y15, rfl, ha, hfs, hm⟩ := hw3
      dsimp only [parFr]
      (focus (refine WP_seq ?_; refine R_region ?_; refine S_c rfl rfl rfl (C_alloc rfl (zer rfl) ?_); intro b15_1; refine S_w0 rfl rfl (W_all rfl rfl rfl (ty rfl) u0 (by first | rfl | assumption) (by first | rfl | assumption) (by first | rfl | assumption | exact ones_sub (by assumption) _ _) ?_); refine OPS_nil ?_; refine then_n ?_; refine R_region ?_; refine S_c rfl rfl rfl (C_alloc rfl (zer rfl) ?_); intro b15_2; refine S_w0 rfl rfl (W_all rfl rfl rfl (ty rfl) u0 (by first | rfl | assumption) (by first | rfl | assumption) (by first | rfl | assumption | exact ones_sub (by assumption) _ _) ?_); refine OPS_nil ?_; refine then_n ?_))
      refine ⟨rfl, ?_⟩
      (focus (refine WP_keepM [] [_] _ rfl ?_; rintro h16_k l16_k k16_k; have a16_k := at_of_keep k16_k; clear k16_k; replace hO := hO.up l16_k; replace it13_2 := it13_2.up l16_k; replace a1_k := a1_k.up l16_k; replace ff0_1 := ff0_1.up l16_k; replace hs := hs.up l16_k; replace ha := ha.up l16_k; replace hfs := hfs.up l16_k; replace hm := hm.up l16_k))
      (focus (refine WP_keepM [] [_] _ rfl ?_; rintro h17_k l17_k k17_k; have a17_k := at_of_keep k17_k; clear k17_k; replace a16_k := a16_k.up l17_k; replace hO := hO.up l17_k; replace it13_2 := it13_2.up l17_k; replace a1_k := a1_k.up l17_k; replace ff0_1 := ff0_1.up l17_k; replace hs := hs.up l17_k; replace ha := ha.up l17_k; replace hfs := hfs.up l17_k; replace hm := hm.up l17_k))
      (focus (refine WP_block ?_; refine WP_seq ?_; refine R_region ?_; refine S_q rfl rfl rfl (Q_makeFunc rfl rfl ⟨_, _, rfl, ⟨_, _, rfl, ⟨_, _, rfl, ⟨_, _, rfl, rfl, rfl⟩, rfl⟩, rfl⟩, rfl⟩) ?_; refine S_q rfl rfl rfl (Q_assign rfl rfl) ?_; refine OPS_nil ?_; refine then_n ?_; refine WP_seq ?_; refine R_region ?_; refine S_q rfl rfl rfl (Q_fieldAddr rfl rfl (fld rfl rfl)) ?_; refine S_load rfl rfl rfl rfl rfl ?_; refine L_sub (Rd.pers (by assumption)) (ty rfl) rfl ?_; refine S_c rfl rfl rfl (C_alloc rfl (zer rfl) ?_); intro b18_1; refine S_w0 rfl rfl (W_all rfl rfl rfl (ty rfl) u0 (by first | rfl | assumption) (by first | rfl | assumption) (by first | rfl | assumption | exact ones_sub (by assumption) _ _) ?_); refine OPS_nil ?_; refine then_n ?_; refine WP_seq ?_; refine R_region ?_; refine S_q rfl rfl rfl (Q_fieldAddr rfl rfl (fld rfl rfl)) ?_; refine S_load rfl rfl rfl rfl rfl ?_; refine L_fld (Rd.own m0) (ty rfl) rfl ?_; refine OPS_nil ?_; refine then_n ?_; refine WP_block ?_; refine WP_seq ?_; refine R_region ?_; refine S_q rfl rfl rfl (Q_cmp rfl rfl rfl rfl) ?_; refine S_q rfl rfl rfl (Q_assign rfl rfl) ?_; refine OPS_nil ?_; refine then_n ?_; refine WP_cond rfl (fun c18_2 => ?_) (fun c18_2 => ?_) <;> (first | (simp [*] at c18_2; done) | (try simp at c18_2)); (focus (refine WP_seq ?_; refine R_draw (n := 12) mixed rfl ?_; refine A_at 0 rfl rfl ?_; refine A_load (m' := 1) rfl rfl rfl rfl rfl rfl (by decide +kernel) ?_; refine L_one (Rd.own m1) (ty rfl) ?_; refine A_at 1 rfl rfl ?_; refine A_load (m' := 3) rfl rfl rfl rfl rfl rfl (by decide +kernel) ?_; refine L_agg (Rd.pers (by assumption)) (ty rfl) (by first | rfl | assumption) ?_; refine A_at 2 rfl rfl ?_; refine A_q (m' := 7) rfl rfl rfl (Q_fieldAddr rfl rfl (fld rfl rfl)) rfl (by decide +kernel) ?_; refine A_at 3 rfl rfl ?_; refine A_load (m' := 15) rfl rfl rfl rfl rfl rfl (by decide +kernel) ?_; refine L_fld (Rd.pers (by assumption)) (ty rfl) rfl ?_; refine A_at 4 rfl rfl ?_; refine A_q (m' := 31) rfl rfl rfl (Q_fieldAddr rfl rfl (fld rfl rfl)) rfl (by decide +kernel) ?_; refine A_at 5 rfl rfl ?_; refine A_load (m' := 63) rfl rfl rfl rfl rfl rfl (by decide +kernel) ?_; refine L_fld (Rd.pers (by assumption)) (ty rfl) rfl ?_; refine A_at 6 rfl rfl ?_; refine A_q (m' := 127) rfl rfl rfl (Q_fieldAddr rfl rfl (fld rfl rfl)) rfl (by decide +kernel) ?_; refine A_at 7 rfl rfl ?_; refine A_load (m' := 255) rfl rfl rfl rfl rfl rfl (by decide +kernel) ?_; refine L_fld (Rd.own m0) (ty rfl) rfl ?_; refine A_at 8 rfl rfl ?_; refine A_c (m' := 511) rfl rfl rfl rfl (by decide +kernel) (C_callv (numbered_s (by assumption)) rfl rfl ⟨_, _, rfl, ⟨_, _, rfl, ⟨_, _, rfl, ⟨_, _, rfl, rfl, rfl⟩, rfl⟩, rfl⟩, rfl⟩ (cal rfl) ?_); refine A_at 9 rfl rfl ?_; refine A_c (m' := 1023) rfl rfl rfl rfl (by decide +kernel) (C_buildSlice rfl (elm rfl) (zer rfl) rfl ⟨_, _, _, rfl, rfl, rfl, rfl, rfl, rfl⟩ rfl rfl ?_); intro b18_3; refine A_at 10 rfl rfl ?_; refine A_w (m' := 2047) rfl rfl rfl rfl rfl (by decide +kernel) (W_app1 [_, _] _ (by assumption) rfl rfl rfl rfl rfl rfl (elm rfl) (zer rfl) rfl rfl rfl rfl rfl (by (try simp only [List.length_append, List.length_cons, List.length_nil]); omega) (by (try simp only [List.length_append, List.length_cons, List.length_nil]); omega) ?_); rintro p18_4 q18_4 m18_4 o18_4; refine A_at 11 rfl rfl ?_; refine A_w0 (m' := 4095) rfl rfl rfl rfl (by decide +kernel) (W_one rfl rfl rfl (ty rfl) u1 rfl rfl rfl ?_); refine A_done (by decide +kernel) ?_; refine then_n ?_; refine R_region ?_; refine S_q rfl rfl rfl (Q_move rfl rfl) ?_; refine S_q rfl rfl rfl (Q_fieldAddr rfl rfl (fld rfl rfl)) ?_; refine S_q rfl rfl rfl (Q_fieldAddr rfl rfl (fld rfl rfl)) ?_; refine S_load rfl rfl rfl rfl rfl ?_; refine L_fld2 (Rd.own m0) ?_; refine LV_1 (ty rfl) rfl ?_)); rotate_left 1; (focus (refine WP_seq ?_; refine R_region ?_; refine S_q rfl rfl rfl (Q_cmp rfl rfl rfl rfl) ?_; refine S_q rfl rfl rfl (Q_assign rfl rfl) ?_; refine OPS_nil ?_; refine then_n ?_; refine WP_cond rfl (fun c18_5 => ?_) (fun c18_5 => ?_) <;> (first | (simp [*] at c18_5; done) | (try simp at c18_5)); (focus (refine R_region ?_; refine S_q rfl rfl rfl (Q_move rfl rfl) ?_; refine S_q rfl rfl rfl (Q_fieldAddr rfl rfl (fld rfl rfl)) ?_; refine S_load rfl rfl rfl rfl rfl ?_; refine L_sub (Rd.own m0) (ty rfl) rfl ?_; refine S_c rfl rfl rfl (C_buildSlice rfl (elm rfl) (zer rfl) rfl ⟨_, _, _, rfl, rfl, rfl, rfl, rfl, rfl⟩ rfl rfl ?_); intro b18_6)); rotate_left 1; (focus (refine WP_seq ?_; refine R_region ?_; refine S_q rfl rfl rfl (Q_cmp rfl rfl rfl rfl) ?_; refine S_q rfl rfl rfl (Q_assign rfl rfl) ?_; refine OPS_nil ?_; refine then_n ?_; refine WP_cond rfl (fun c18_7 => ?_) (fun c18_7 => ?_) <;> (first | (simp [*] at c18_7; done) | (try simp at c18_7)); (focus (refine WP_seq ?_; refine R_region ?_; refine S_q rfl rfl rfl (Q_fieldAddr rfl rfl (fld rfl rfl)) ?_; refine S_q rfl rfl rfl (Q_fieldAddr rfl rfl (fld rfl rfl)) ?_; refine S_load rfl rfl rfl rfl rfl ?_; refine L_fld2 (Rd.own m0) ?_; refine LV_1 (ty rfl) rfl ?_; refine S_q rfl rfl rfl (Q_len rfl rfl rfl rfl rfl rfl) ?_; refine S_q rfl rfl rfl (Q_move rfl rfl) ?_; refine OPS_nil ?_; refine then_n ?_; refine WP_block ?_)); rotate_left 1; (focus (refine WP_skip ?_; refine block_n ?_; refine block_n ?_)); rotate_left 1)); rotate_left 2)); rotate_left 3))
      · have hfi : flightIDs vs (v, x) = numberedOf vs v.machine x.to x.msg.number :: x.msg.args.map (idOf vs v.machine x.to) := by rw [flightIDs, if_pos c18_2]
        refine S_w rfl rfl rfl (W_callC (cap := [ptr b0_3 0, ptr b0_2 0, ptr b15_1 0, ptr b15_2 0]) [_] _ (rootsAdd_s (mf := v.machine) (mt := x.to) a1_k ff0_1 a17_k a16_k ha o18_4 (by simp; omega)) rfl rfl rfl ⟨_, _, rfl, rfl, rfl⟩ (cal rfl) rfl ?_)
        rintro h3 L3 _ hl3 ⟨rfl, p3, c3, M3, rfl, hO3⟩
        (focus (refine OPS_nil ?_; refine block_n ?_; refine block_n ?_))
        refine bodyS_n (_, p3, c3, M3) ⟨le_trans hl2 (le_trans l16_k l17_k), ?_, hO3⟩ (by repeat' (first | exact List.Sublist.refl _ | exact List.sublist_append_left _ _ | exact List.nil_sublist _ | apply List.Sublist.cons₂ | apply List.Sublist.cons))
        simp only; rw [hsn, hfi, hoe]; simp only [List.append_assoc, List.cons_append, List.nil_append]
      · have hfi : flightIDs vs (v, x) = [idOf vs v.machine x.to x.msg.ref] := by rw [flightIDs, if_neg c18_2, if_pos c18_5]
        (focus (refine OPS_keepM [] [_] _ rfl ?_; rintro h20_k l20_k k20_k; have a20_k := at_of_keep k20_k; clear k20_k; replace a17_k := a17_k.up l20_k; replace a16_k := a16_k.up l20_k; replace hO := hO.up l20_k; replace it13_2 := it13_2.up l20_k; replace a1_k := a1_k.up l20_k; replace ff0_1 := ff0_1.up l20_k; replace hs := hs.up l20_k; replace ha := ha.up l20_k; replace hfs := hfs.up l20_k; replace hm := hm.up l20_k))
        refine S_w rfl rfl rfl (W_callC (vs := [.slice (some ⟨b18_6, 0, none⟩) 1 1]) (cap := [ptr b0_3 0, ptr b0_2 0, ptr b15_1 0, ptr b15_2 0]) [_] _ (rootsAdd_s (l := .slice (some ⟨b18_6, 0, none⟩) 1 1) (mf := v.machine) (mt := x.to) (rs := [x.msg.ref]) a1_k ff0_1 a17_k a16_k (slb_of_at a20_k (Flat.one rfl rfl rfl) (by simp)) hO (by simp; omega)) rfl rfl rfl ⟨_, _, rfl, rfl, rfl⟩ (cal rfl) rfl ?_)
        rintro h3 L3 _ hl3 ⟨rfl, p3, c3, M3, rfl, hO3⟩
        (focus (refine OPS_nil ?_; refine block_n ?_; refine block_n ?_))
        refine bodyS_n (_, p3, c3, M3) ⟨le_trans hl2 (le_trans l16_k (le_trans l17_k l20_k)), ?_, hO3⟩ (by repeat' (first | exact List.Sublist.refl _ | exact List.sublist_append_left _ _ | exact List.nil_sublist _ | apply List.Sublist.cons₂ | apply List.Sublist.cons))
        simp only; rw [hsn, hfi, hoe]; simp only [List.append_assoc, List.map_cons, List.map_nil]
      · have hfi : flightIDs vs (v, x) = x.msg.parcel.mail.flatMap fun l => x.msg.parcel.id :: l.map (idOf vs v.machine x.to) := by rw [flightIDs, if_neg c18_2, if_neg c18_5, if_pos c18_7]
        (refine WP_loopM (α := Nat × List ID × Option Addr × Nat × Hp) [_]  _ [109, 108, 16, 15, 4] (fun (s : Nat × List ID × Option Addr × Nat × Hp) => x.msg.parcel.mail.length - s.1) (fun (s : Nat × List ID × Option Addr × Nat × Hp) =>  ((b0_3, cells [.slice s.2.2.1 s.2.1.length s.2.2.2.1] 31) :: s.2.2.2.2)) (fun (s : Nat × List ID × Option Addr × Nat × Hp) => [(110, .int .i64 (s.1 : Int))]) (fun hh (s : Nat × List ID × Option Addr × Nat × Hp) => hh = h17_k ∧ s.1 ≤ x.msg.parcel.mail.length ∧ s.2.1 = out ++ (x.msg.parcel.mail.take s.1).flatMap (fun l => x.msg.parcel.id :: l.map (idOf vs v.machine x.to)) ∧ OS h17_k 35 2 IDC (.slice s.2.2.1 s.2.1.length s.2.2.2.1) s.2.1 s.2.2.2.2) (0, out, p, c, M) rfl ⟨_, _, rfl, ⟨_, _, rfl, ⟨_, _, rfl, ⟨_, _, rfl, ⟨_, _, rfl, rfl, rfl⟩, rfl⟩, rfl⟩, rfl⟩, rfl⟩ (by repeat' (first | exact trivial | refine ⟨rfl, ?_⟩)) ?_ ?_)
        · exact ⟨rfl, Nat.zero_le _, by simp, hO⟩
        clear hO
        rintro h3 ⟨j, oo, p, c, M⟩ _ ⟨hh3, hj, hoo, hO⟩
        simp only at hj hoo hO
        dsimp only
        subst hh3
        have hool : oo.length ≤ out.length + 28 := by
          have := flatMap_le (fun l : List Ref => x.msg.parcel.id :: l.map (idOf vs v.machine x.to)) 7 (x.msg.parcel.mail.take j) (fun m hm => by
            have := hq6 m (List.mem_of_mem_take hm)
            simp; omega)
          rw [List.length_take] at this
          rw [hoo, List.length_append]; omega
        by_cases hlt2 : j < x.msg.parcel.mail.length
        · obtain ⟨lt, el⟩ := get_of hlt2
          have hlt6 := hq6 _ (List.mem_of_getElem? el)
          have hlm := flatMap_take (fun l : List Ref => x.msg.parcel.id :: l.map (idOf vs v.machine x.to)) el
          (focus (refine WP_seq ?_; refine R_region ?_; refine S_q rfl rfl rfl (Q_cmp rfl rfl rfl rfl) ?_; refine OPS_nil ?_; refine then_n ?_; refine WP_seq ?_; refine WP_cond rfl (fun c23_1 => ?_) (fun c23_1 => ?_) <;> (first | (simp [*] at c23_1; done) | (try simp at c23_1)); refine WP_skip ?_; refine then_n ?_; refine WP_seq ?_; refine WP_block ?_; refine WP_seq ?_; refine R_region ?_; refine S_q rfl rfl rfl (Q_indexS (by assumption) (by assumption) rfl rfl rfl (elm rfl) rfl) ?_; refine S_load rfl rfl rfl rfl rfl ?_; refine L_elA (by assumption) (by assumption) (ty rfl) ?_; rintro _ _ _ ⟨xa23_2, xb23_2, xm23_2, pl23_2, ql23_2, rfl, fl23_2⟩; refine S_c rfl rfl rfl (C_alloc rfl (zer rfl) ?_); intro b23_3; refine S_w0 rfl rfl (W_all rfl rfl rfl (ty rfl) u0 (by first | rfl | assumption) (by first | rfl | assumption) (by first | rfl | assumption | exact ones_sub (by assumption) _ _) ?_); refine OPS_nil ?_; refine then_n ?_; refine WP_seq ?_; refine R_region ?_; refine S_load rfl rfl rfl rfl rfl ?_; refine L_one (Rd.own m2) (ty rfl) ?_; refine S_q rfl rfl rfl (Q_fieldAddr rfl rfl (fld rfl rfl)) ?_; refine S_q rfl rfl rfl (Q_fieldAddr rfl rfl (fld rfl rfl)) ?_; refine S_load rfl rfl rfl rfl rfl ?_; refine L_fld2 (Rd.own m1) ?_; refine LV_a (ty rfl) rfl ?_; refine S_c rfl rfl rfl (C_buildSlice rfl (elm rfl) (zer rfl) rfl ⟨_, _, _, rfl, rfl, rfl, rfl, rfl, rfl⟩ rfl rfl ?_); intro b23_4; refine S_w rfl rfl rfl (W_app1 [_, _, _] _ (by assumption) rfl rfl rfl rfl rfl rfl (elm rfl) (zer rfl) rfl rfl rfl rfl rfl (by (try simp only [List.length_append, List.length_cons, List.length_nil]); omega) (by (try simp only [List.length_append, List.length_cons, List.length_nil]); omega) ?_); rintro p23_5 q23_5 m23_5 o23_5; refine S_w0 rfl rfl (W_one rfl rfl rfl (ty rfl) u2 rfl rfl rfl ?_); refine OPS_nil ?_; refine then_n ?_; refine R_region ?_; refine S_q rfl rfl rfl (Q_move rfl rfl) ?_; refine S_q rfl rfl rfl (Q_fieldAddr rfl rfl (fld rfl rfl)) ?_; refine S_load rfl rfl rfl rfl rfl ?_; refine L_fld (Rd.own m0) (ty rfl) rfl ?_))
          refine S_w rfl rfl rfl (W_callC (cap := [ptr b0_3 0, ptr b0_2 0, ptr b15_1 0, ptr b15_2 0]) [_, _] _ (rootsAdd_s (mf := v.machine) (mt := x.to) a1_k ff0_1 a17_k a16_k fl23_2 o23_5 (by simp; omega)) rfl rfl rfl ⟨_, _, rfl, rfl, rfl⟩ (cal rfl) rfl ?_)
          rintro h4 L4 _ hl4 ⟨rfl, p3, c3, M3, rfl, hO3⟩
          (focus (refine OPS_nil ?_; refine block_n ?_; refine then_n ?_; refine R_region ?_; refine S_q rfl rfl rfl (Q_add rfl rfl rfl (by omega)) ?_; refine S_q rfl rfl rfl (Q_move rfl rfl) ?_; refine OPS_nil ?_))
          refine roundF_n (j + 1, _, p3, c3, M3) (by simp only; omega) ⟨rfl, by simp only; omega, ?_, hO3⟩ (by repeat' (first | exact List.Sublist.refl _ | exact List.sublist_append_left _ _ | exact List.nil_sublist _ | apply List.Sublist.cons₂ | apply List.Sublist.cons)) (by repeat' (first | exact trivial | refine ⟨rfl, ?_⟩))
          simp only; rw [hlm, hoo]; simp only [List.append_assoc, List.cons_append, List.nil_append]
        · have hge : j = x.msg.parcel.mail.length := by omega
          subst hge
          rw [List.take_length, ← hfi] at hoo
          (focus (refine WP_seq ?_; refine R_region ?_; refine S_q rfl rfl rfl (Q_cmp rfl rfl rfl rfl) ?_; refine OPS_nil ?_; refine then_n ?_; refine WP_seq ?_; refine WP_cond rfl (fun c25_1 => ?_) (fun c25_1 => ?_) <;> (first | (simp [*] at c25_1; done) | (try simp at c25_1)); refine WP_exit ?_; refine then_e ?_; refine roundF_e ?_; refine block_e ?_; refine block_n ?_; refine block_n ?_))
          refine bodyS_n (oo, p, c, M) ⟨le_trans hl2 (le_trans l16_k l17_k), ?_, hO⟩ (by repeat' (first | exact List.Sublist.refl _ | exact List.sublist_append_left _ _ | exact List.nil_sublist _ | apply List.Sublist.cons₂ | apply List.Sublist.cons))
          simp only; rw [hsn, hoo, hoe, List.append_assoc]
      · have hfi : flightIDs vs (v, x) = [] := by rw [flightIDs, if_neg c18_2, if_neg c18_5, if_neg c18_7]
        refine bodyS_n (out, p, c, M) ⟨le_trans hl2 (le_trans l16_k l17_k), ?_, hO⟩ (by repeat' (first | exact List.Sublist.refl _ | exact List.sublist_append_left _ _ | exact List.nil_sublist _ | apply List.Sublist.cons₂ | apply List.Sublist.cons))
        simp only; rw [hsn, hfi, hoe, List.append_nil]
    · clear hO hol hoe M p c out
      rintro d h2 ⟨out, p, c, M⟩ hl1 ⟨hl2, hoe, hO⟩
      simp only at hoe hO
      (replace it13_2 := it13_2.up hl1; replace a1_k := a1_k.up hl1; replace ff0_1 := ff0_1.up hl1; replace hs := hs.up hl1)
      have hraw : out = rawRoots vs := by rw [rawRoots, hoe]
      have hol : out.length ≤ 2000 := by rw [hraw]; exact raw_len sm
      have hrl := roots_len sm
      (focus (refine block_n ?_; refine then_n ?_; refine WP_seq ?_; refine R_region ?_; refine S_load rfl rfl rfl rfl rfl ?_; refine L_one (Rd.own m0) (ty rfl) ?_))
      refine OPS_keepM [_] M [dObj d] rfl fun h3 hl3 hm3 => ?_
      have hSL : SL h3 2 IDC (.slice p out.length c) out := hO.sl hl3 IDC_mono hm3 (by omega)
      clear hO
      have hsl := setL_length out
      (focus (refine S_w rfl rfl rfl (W_callF [] _ (set_s (by assumption)) rfl rfl ⟨_, _, rfl, rfl, rfl⟩ (cal rfl) rfl ?_); rintro h28_1 m28_1 _ l28_1 ⟨p28_1, q28_1, rfl, o28_1⟩; replace hSL := hSL.up l28_1; refine S_q rfl rfl rfl (Q_build rfl (by decide +kernel) (zer rfl) rfl rfl) ?_; refine S_c rfl rfl rfl (C_buildSlice rfl (elm rfl) (zer rfl) rfl ⟨_, _, _, rfl, rfl, rfl, rfl, rfl, rfl⟩ rfl rfl ?_); intro b28_2))
      (focus (refine OPS_keepM [] [_] _ rfl ?_; rintro h29_k l29_k k29_k; have a29_k := at_of_keep k29_k; clear k29_k; replace o28_1 := o28_1.up l29_k; replace hSL := hSL.up l29_k))
      refine OPS_keepM [] m28_1 _ rfl fun h4 hl4 hm4 => ?_
      have hS2 : SL h4 2 IDC (.slice p28_1 (setL out).length q28_1) (setL out) := o28_1.sl hl4 IDC_mono hm4 (by omega)
      have hS3 : SL h4 2 IDC (.slice (some ⟨b28_2, 0, none⟩) 1 1) [(0, 0)] := slb_of_at (a29_k.up hl4) (Flat.one rfl rfl rfl) (by simp)
      clear hSL
      (focus (refine S_w rfl rfl rfl (W_callF [] _ (minus_s (by assumption) (by assumption)) rfl rfl ⟨_, _, rfl, ⟨_, _, rfl, rfl, rfl⟩, rfl⟩ (cal rfl) rfl ?_); rintro h30_1 m30_1 _ l30_1 ⟨p30_1, q30_1, rfl, o30_1⟩; replace hS2 := hS2.up l30_1; replace hS3 := hS3.up l30_1; refine S_q rfl rfl rfl (Q_assign rfl rfl) ?_; refine OPS_nil ?_; refine then_n ?_; refine WP_ret ?_))
      rw [rootsR, ← hraw] at hrl
      refine nretK [] m30_1 [(b0_3, cells [Value.slice p out.length c] 31)] (by simp) (.inl rfl) rfl ⟨_, _, rfl, rfl, rfl⟩ fun h5 hl5 hm5 => ?_
      rw [rootsR, ← hraw]
      exact ⟨_, _, rfl, o30_1.sl hl5 IDC_mono hm5 (by omega)⟩
    · rintro d e h1 L1 hl1 hx _; exact hx.elim
end Go.Proofs.YtfhoecgiahpddaaGreat
