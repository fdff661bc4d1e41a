/-
  Part D of the proof's ground: Gd, Draws3, Gf, Rules8, Rules9, Rules10, Gg, Gh, Gm, Gj, Gk, Gi, Gl, Oc.
-/
import Derived.Test.YtfhoecgiahpddaaGreatMjA
import Derived.Test.YtfhoecgiahpddaaGreatMjB
import Derived.Test.YtfhoecgiahpddaaGreatMjC
/-
  CONTRACTS: the reference's moved nodes, references of letters, roots of flights (refmeshref55.refs, Moved, flightRoots).
-/
set_option linter.all false
namespace Go.Proofs.YtfhoecgiahpddaaGreat
open Go.Mesh Go.RowKit
set_option maxRecDepth 100000
set_option linter.unusedVariables false
set_option maxHeartbeats 4000000
attribute [local irreducible] WP OPS ANY ANYo LG LV FSpec PSpec QOP OPc OPw thenQ blockQ roundQ roundF retQ retM Rd At SLB OS cmpI orI cmpID namedB valB nodeB kindB validG valAux idxI findG zeroV viewOf vwAt idxOf recv flyB scionOf moveOf numberedOf idOf valueOf mget mput localB carriedB msgB sizesB smallV fewB stubOf followF followOf flOf flightsOf flPre setL minusL compactL putI mergeN insN insAll unionR NMap Coll retN bodyS GMap Dfs refsV refsOf reachL movedOf movedG graphParts graphR isMove flightIDs mailIDs viewIDs rawRoots rootsR
theorem refRefs_s {h : Frag} {a l : Value} {vs : List View} {frm to : Int} {rs : List Ref} (hs : SL h 13 (ViewC 4398046511104) a vs) (hl : SL h 8 RefC l rs) (hb : rs.length ≤ 1000) : FSpec Tryz.prog 97 #[a, .int .i64 frm, .int .i64 to, l] h []
    (fun h' L' v => h' = h ∧ ∃ p c, v = .slice p (rs.map (idOf vs frm to)).length c ∧ OS h 35 2 IDC (.slice p (rs.map (idOf vs frm to)).length c) (rs.map (idOf vs frm to)) L') := by
  obtain ⟨pl, cl, rfl⟩ := hl.slice
  refine spec_of (vs := [a, .int .i64 frm, .int .i64 to, .slice pl rs.length cl]) Tryz.func97 Tryz.ntmps97 rfl rfl rfl ?_
  (focus (refine Wr ?_; refine Tm ?_; refine On ?_; refine Wr ?_; refine S_c rfl rfl rfl (C_buildSlice rfl (elm rfl) (zer rfl) rfl rfl rfl rfl ?_); intro b0_1; refine Tm ?_; refine On ?_; refine WP_seq ?_; refine Wr ?_; refine Tm ?_; refine On ?_; refine WP_block ?_))
  (refine WP_loopF (α := Nat × List ID × Option Addr × Nat × Hp) [0, 1, 2, 3] (fun (s : Nat × List ID × Option Addr × Nat × Hp) => rs.length - s.1) (fun (s : Nat × List ID × Option Addr × Nat × Hp) => s.2.2.2.2 ++ []) (fun (s : Nat × List ID × Option Addr × Nat × Hp) => [(10, .int .i64 (s.1 : Int)), (9, .slice s.2.2.1 s.2.1.length s.2.2.2.1)]) (fun hh (s : Nat × List ID × Option Addr × Nat × Hp) => hh = h ∧ s.1 ≤ rs.length ∧ s.2.1 = (rs.take s.1).map (idOf vs frm to) ∧ OS h 35 2 IDC (.slice s.2.2.1 s.2.1.length s.2.2.2.1) s.2.1 s.2.2.2.2) (0, [], some ⟨b0_1, 0, none⟩, 0, [(b0_1, cells [] 35)]) ⟨_, _, rfl, ⟨_, _, rfl, ⟨_, _, rfl, ⟨_, _, rfl, rfl, rfl⟩, rfl⟩, rfl⟩, rfl⟩ ?_ (by repeat' first | exact sR _ | exact sA _ _ | exact sN _ | apply s2 | apply s1) (by repeat' first | exact trivial | refine ⟨rfl, ?_⟩) ?_)
  · exact ⟨rfl, Nat.zero_le _, rfl, OS.lit0 _ _ _ _ _⟩
  rintro h1 ⟨k, out, p, c, M⟩ _ ⟨rfl, hk, ho, hO⟩
  simp only at hk ho hO
  dsimp only
  have hol : out.length = k := by rw [ho]; simp; omega
  by_cases hlt : k < rs.length
  · obtain ⟨r, er⟩ := get_of hlt
    have hmt := map_take (idOf vs frm to) er
    (focus (refine WP_seq ?_; refine Wr ?_; refine Tm ?_; refine Tm ?_; refine Tlen ?_; refine Tc ?_; refine On ?_; refine Wc ?_ ?_ <;> intro c2_1 <;> (first | simp [*] at c2_1; done | try simp at c2_1); refine WP_skip ?_; refine then_n ?_; refine WP_seq ?_; refine WP_block ?_; refine R_region ?_; refine Tm ?_; refine Tm ?_; refine Tm ?_; refine Tm ?_; refine Tm ?_; refine Tm ?_; refine Ti ?_; refine Tl ?_; refine Le ?_; rintro _ _ _ rfl; refine S_c rfl rfl rfl (C_callv (refID_s ‹_›) rfl rfl ⟨_, _, rfl, ⟨_, _, rfl, ⟨_, _, rfl, ⟨_, _, rfl, rfl, rfl⟩, rfl⟩, rfl⟩, rfl⟩ (cal rfl) ?_); refine S_c rfl rfl rfl (C_buildSlice rfl (elm rfl) (zer rfl) rfl ⟨_, _, _, rfl, rfl, rfl, rfl, rfl, rfl⟩ rfl rfl ?_); intro b2_3))
    refine S_w rfl rfl rfl (W_app1 (y := idOf vs frm to r) (by_ := 16) [] _ hO rfl rfl rfl rfl rfl rfl (elm rfl) (zer rfl) rfl rfl rfl rfl rfl (by omega) (by omega) ?_)
    rintro p2 c2 M2 hO2
    (focus (refine Tm ?_; refine OPS_nil ?_; refine block_n ?_; refine then_n ?_; refine R_region ?_; refine Tm ?_; refine Ta ?_; refine Tm ?_; refine OPS_nil ?_))
    refine roundF_n (k + 1, out ++ [idOf vs frm to r], p2, c2, M2) (by simp only; omega) ⟨rfl, by simp only; omega, ?_, hO2⟩ (by repeat' first | exact sR _ | exact sA _ _ | exact sN _ | apply s2 | apply s1) (by repeat' first | exact trivial | refine ⟨rfl, ?_⟩)
    simp only; rw [hmt, ho]
  have hge : k = rs.length := by omega
  subst hge
  rw [List.take_length] at ho
  subst ho
  (focus (refine WP_seq ?_; refine Wr ?_; refine Tm ?_; refine Tm ?_; refine Tlen ?_; refine Tc ?_; refine On ?_; refine Wc ?_ ?_ <;> intro c4_1 <;> (first | simp [*] at c4_1; done | try simp at c4_1); refine WP_exit ?_; refine then_e ?_; refine roundF_e ?_; refine block_e ?_; refine then_n ?_; refine Wr ?_; refine Tm ?_; refine Tm ?_; refine On ?_; refine WP_ret ?_))
  exact ret_q M (.inl rfl) rfl ⟨_, _, rfl, rfl, rfl⟩ (by repeat' first | exact sR _ | exact sA _ _ | exact sN _ | apply s2 | apply s1) ⟨rfl, p, c, rfl, hO⟩
theorem OS.lit1 (h : Frag) (e k : Nat) {α : Type} {C : CR α} {b : Nat} {y : α} {us : List Value} (hl : us.length = k) (ho : ones us = true) (hy : C h y us) : OS h e k C (.slice (some ⟨b, 0, none⟩) 1 1) [y] [(b, cells us e)] := by
  unfold OS
  exact ⟨us, Row.lit (by simpa using hl), Flat.one hl ho hy⟩
/-- the roots of a flight, as the reference lists them -/
def refFl (vs : List View) (frm : Int) (x : Flight) : List ID :=
  if x.msg.kind = 0 then x.msg.args.map (idOf vs frm x.to) ++ [numberedOf vs frm x.to x.msg.number]
  else if x.msg.kind = 17 then [idOf vs frm x.to x.msg.ref]
  else if x.msg.kind = 1 then x.msg.parcel.mail.flatMap fun l => x.msg.parcel.id :: l.map (idOf vs frm x.to)
  else []
theorem refFlightRoots_s {h : Frag} {a : Value} {ws : List Value} {vs : List View} {frm : Int} {x : Flight} (hs : SL h 13 (ViewC 4398046511104) a vs) (hx : FlightC 4398046511104 h x ws) (hwo : ones ws = true) (h1 : x.msg.args.length ≤ 6) (h2 : x.msg.parcel.mail.length ≤ 4) (h3 : ∀ l, l ∈ x.msg.parcel.mail → l.length ≤ 6) :
    FSpec Tryz.prog 51 #[a, .int .i64 frm, .agg ws.toArray] h []
    (fun h' L' v => ∃ p c, v = .slice p (refFl vs frm x).length c ∧ OS h' 35 2 IDC (.slice p (refFl vs frm x).length c) (refFl vs frm x) L') := by
  obtain ⟨ya, yb, yc, yd, ye, pa, qa, pg, qg, ph, qh, yw, y1, y2, y3, y4, y5, y6, y7, y8, y9, y10, y11, y12, y13, y14, y15, rfl, ha, hf, hm⟩ := hx
  refine spec_of (vs := [a, .int .i64 frm, .agg _]) Tryz.func51 Tryz.ntmps51 rfl rfl rfl ?_
  (focus (refine Wr ?_; refine Tbx ?_; intro b0_1; refine Tm ?_; refine On ?_; refine Wr ?_; refine Tf ?_; refine Tl ?_; refine L_sub (Rd.own m0) (ty rfl) rfl ?_; refine Tal ?_; intro b0_2; refine Tw u0 ?_; refine On ?_; refine WP_seq ?_; refine Wr ?_; refine Tf ?_; refine Tl ?_; refine Lo m0 ?_; refine On ?_; refine WP_block ?_; refine Wr ?_; refine Tc ?_; refine Tm ?_; refine On ?_; refine Wc ?_ ?_ <;> intro c0_3 <;> (first | simp [*] at c0_3; done | try simp at c0_3); (focus (refine WP_seq ?_; refine R_draw (n := 18) mixed rfl ?_; refine Va 0 ?_; refine Vm 1 ?_; refine Va 1 ?_; refine Vm 3 ?_; refine Va 2 ?_; refine Vf 7 ?_; refine Va 3 ?_; refine Vl 15 ?_; refine Lo m1 ?_; refine Va 4 ?_; refine Vf 31 ?_; refine Va 5 ?_; refine Vf 63 ?_; refine Va 6 ?_; refine Vl 127 ?_; refine L_fld2 (Rd.own m0) ?_; refine LV_1 (ty rfl) rfl ?_; refine Va 8 ?_; refine Vm 383 ?_; refine Va 9 ?_; refine Vm 895 ?_; refine Va 10 ?_; refine Vf 1919 ?_; refine Va 11 ?_; refine Vl 3967 ?_; refine Lo m1 ?_; refine Va 12 ?_; refine Vf 8063 ?_; refine Va 13 ?_; refine Vl 16255 ?_; refine Lo m0 ?_; refine Va 7 ?_; refine A_c (m' := 16383) rfl rfl rfl rfl (by decide +kernel) (C_callF (refRefs_s ‹_› ‹_› (by omega)) rfl rfl ⟨_, _, rfl, ⟨_, _, rfl, ⟨_, _, rfl, ⟨_, _, rfl, rfl, rfl⟩, rfl⟩, rfl⟩, rfl⟩ (cal rfl) ?_); rintro h0_4 m0_4 _ l0_4 ⟨e0_4, p0_4, q0_4, rfl, o0_4⟩; replace hs := hs.up l0_4; replace ha := ha.up l0_4; replace hf := hf.up l0_4; replace hm := hm.up l0_4; replace o0_4 := o0_4.up l0_4; refine Va 14 ?_; refine A_c (m' := 32767) rfl rfl rfl rfl (by decide +kernel) (C_callv (refNumbered_s ‹_›) rfl rfl ⟨_, _, rfl, ⟨_, _, rfl, ⟨_, _, rfl, ⟨_, _, rfl, rfl, rfl⟩, rfl⟩, rfl⟩, rfl⟩ (cal rfl) ?_); refine Va 15 ?_; refine A_c (m' := 65535) rfl rfl rfl rfl (by decide +kernel) (C_buildSlice rfl (elm rfl) (zer rfl) rfl ⟨_, _, _, rfl, rfl, rfl, rfl, rfl, rfl⟩ rfl rfl ?_); intro b0_5)); rotate_left 1; (focus (refine Wr ?_; refine Tc ?_; refine Tm ?_; refine On ?_; refine Wc ?_ ?_ <;> intro c0_6 <;> (first | simp [*] at c0_6; done | try simp at c0_6); (focus (refine Wr ?_; refine Tm ?_; refine Tm ?_; refine Tf ?_; refine Tl ?_; refine Lo m1 ?_; refine Tf ?_; refine Tl ?_; refine L_sub (Rd.own m0) (ty rfl) rfl ?_; refine S_c rfl rfl rfl (C_callv (refID_s ‹_›) rfl rfl ⟨_, _, rfl, ⟨_, _, rfl, ⟨_, _, rfl, ⟨_, _, rfl, rfl, rfl⟩, rfl⟩, rfl⟩, rfl⟩ (cal rfl) ?_); refine S_c rfl rfl rfl (C_buildSlice rfl (elm rfl) (zer rfl) rfl ⟨_, _, _, rfl, rfl, rfl, rfl, rfl, rfl⟩ rfl rfl ?_); intro b0_7; refine Tm ?_; refine On ?_; refine WP_ret ?_; refine block_r ?_; refine then_r ?_)); rotate_left 1; (focus (refine Wr ?_; refine Tc ?_; refine Tm ?_; refine On ?_; refine Wc ?_ ?_ <;> intro c0_8 <;> (first | simp [*] at c0_8; done | try simp at c0_8); (focus (refine Wr ?_; refine S_c rfl rfl rfl (C_buildSlice rfl (elm rfl) (zer rfl) rfl rfl rfl rfl ?_); intro b0_9; refine Tm ?_; refine On ?_; refine WP_seq ?_; refine Wr ?_; refine Tm ?_; refine On ?_; refine WP_block ?_)); rotate_left 1; (focus (refine WP_skip ?_; refine block_n ?_; refine then_n ?_; refine Wr ?_; refine Tm ?_; refine On ?_; refine WP_ret ?_)); rotate_left 1)); rotate_left 2)); rotate_left 3))
  · subst e0_4
    refine Va 16 ?_
    refine A_w (m' := 131071) rfl rfl rfl rfl rfl (by decide +kernel) (W_app1 (y := numberedOf vs frm x.to x.msg.number) (by_ := 16) [] _ o0_4 rfl rfl rfl rfl rfl rfl (elm rfl) (zer rfl) rfl rfl rfl rfl rfl (by simp only [List.length_map]; omega) (by simp only [List.length_map]; omega) ?_)
    rintro p2 c2 M2 hO2
    have hfl : refFl vs frm x = x.msg.args.map (idOf vs frm x.to) ++ [numberedOf vs frm x.to x.msg.number] := by rw [refFl, if_pos c0_3]
    rw [hfl]
    (focus (refine Va 17 ?_; refine Vs 262143 ?_; refine A_done (by decide +kernel) ?_; refine then_n ?_; refine WP_ret ?_; refine block_r ?_; refine then_r ?_))
    exact ret_q M2 (.inl rfl) rfl ⟨_, _, rfl, rfl, rfl⟩ (by repeat' first | exact sR _ | exact sA _ _ | exact sN _ | apply s2 | apply s1) ⟨p2, c2, rfl, hO2⟩
  · have hfl : refFl vs frm x = [idOf vs frm x.to x.msg.ref] := by rw [refFl, if_neg c0_3, if_pos c0_6]
    rw [hfl]
    exact ret_q [(b0_7, _)] (.inl rfl) rfl ⟨_, _, rfl, rfl, rfl⟩ (by repeat' first | exact sR _ | exact sA _ _ | exact sN _ | apply s2 | apply s1) ⟨some ⟨b0_7, 0, none⟩, 1, rfl, OS.lit1 _ _ _ rfl rfl rfl⟩
  · have hfl : refFl vs frm x = x.msg.parcel.mail.flatMap fun l => x.msg.parcel.id :: l.map (idOf vs frm x.to) := by rw [refFl, if_neg c0_3, if_neg c0_6, if_pos c0_8]
    rw [hfl]
    (focus (refine WP_keepM [_] [_] _ rfl ?_; rintro h2_k l2_k k2_k; have a2_k := at_of_keep k2_k; clear k2_k; replace hs := hs.up l2_k; replace ha := ha.up l2_k; replace hf := hf.up l2_k; replace hm := hm.up l2_k))
    (focus (refine WP_keepM [_] [_] _ rfl ?_; rintro h3_k l3_k k3_k; have a3_k := at_of_keep k3_k; clear k3_k; replace a2_k := a2_k.up l3_k; replace hs := hs.up l3_k; replace ha := ha.up l3_k; replace hf := hf.up l3_k; replace hm := hm.up l3_k))
    (refine WP_loopF (α := Nat × List ID × Option Addr × Nat × Hp) [7, 5, 0, 1] (fun (s : Nat × List ID × Option Addr × Nat × Hp) => x.msg.parcel.mail.length - s.1) (fun (s : Nat × List ID × Option Addr × Nat × Hp) => s.2.2.2.2 ++ []) (fun (s : Nat × List ID × Option Addr × Nat × Hp) => [(9, .int .i64 (s.1 : Int)), (8, .slice s.2.2.1 s.2.1.length s.2.2.2.1)]) (fun hh (s : Nat × List ID × Option Addr × Nat × Hp) => le h3_k hh ∧ s.1 ≤ x.msg.parcel.mail.length ∧ s.2.1 = (x.msg.parcel.mail.take s.1).flatMap (fun l => x.msg.parcel.id :: l.map (idOf vs frm x.to)) ∧ OS hh 35 2 IDC (.slice s.2.2.1 s.2.1.length s.2.2.2.1) s.2.1 s.2.2.2.2) (0, [], some ⟨b0_9, 0, none⟩, 0, [(b0_9, cells [] 35)]) ⟨_, _, rfl, ⟨_, _, rfl, ⟨_, _, rfl, ⟨_, _, rfl, rfl, rfl⟩, rfl⟩, rfl⟩, rfl⟩ ?_ (by repeat' first | exact sR _ | exact sA _ _ | exact sN _ | apply s2 | apply s1) (by repeat' first | exact trivial | refine ⟨rfl, ?_⟩) ?_)
    · exact ⟨le_refl _, Nat.zero_le _, rfl, OS.lit0 _ _ _ _ _⟩
    rintro h5 ⟨k, out, p, c, M⟩ _ ⟨hl5, hk, ho, hO⟩
    simp only at hk ho hO
    dsimp only
    (replace a3_k := a3_k.up hl5; replace a2_k := a2_k.up hl5; replace hs := hs.up hl5; replace ha := ha.up hl5; replace hf := hf.up hl5; replace hm := hm.up hl5)
    have hol : out.length ≤ 28 := by
      have := flatMap_le (fun l : List Ref => x.msg.parcel.id :: l.map (idOf vs frm x.to)) 7 (x.msg.parcel.mail.take k) (fun m hm => by
        have := h3 m (List.mem_of_mem_take hm)
        simp; omega)
      rw [List.length_take] at this
      rw [ho]; omega
    by_cases hlt : k < x.msg.parcel.mail.length
    · obtain ⟨lt, el⟩ := get_of hlt
      have hl6 := h3 lt (List.mem_of_getElem? el)
      have hmt := flatMap_take (fun l : List Ref => x.msg.parcel.id :: l.map (idOf vs frm x.to)) el
      (focus (refine WP_seq ?_; refine Wr ?_; refine Tm ?_; refine Tf ?_; refine Tf ?_; refine Tl ?_; refine L_fld2 (Rd.pers ‹_›) ?_; refine LV_1 (ty rfl) rfl ?_; refine Tlen ?_; refine Tc ?_; refine On ?_; refine Wc ?_ ?_ <;> intro c6_1 <;> (first | simp [*] at c6_1; done | try simp at c6_1); refine WP_skip ?_; refine then_n ?_; refine WP_seq ?_; refine WP_block ?_; refine R_draw (n := 20) mixed rfl ?_; refine Va 0 ?_; refine Vm 1 ?_; refine Va 1 ?_; refine Vf 3 ?_; refine Va 2 ?_; refine Vf 7 ?_; refine Va 3 ?_; refine Vl 15 ?_; refine L_fld2 (Rd.pers ‹_›) ?_; refine LV_a (ty rfl) rfl ?_; refine Va 6 ?_; refine A_qp (m' := 79) rfl rfl rfl (Q_move rfl rfl) rfl (by decide +kernel) ?_; refine Va 7 ?_; refine A_qp (m' := 207) rfl rfl rfl (Q_move rfl rfl) rfl (by decide +kernel) ?_; refine Va 8 ?_; refine A_qp (m' := 463) rfl rfl rfl (Q_fieldAddr rfl rfl (fld rfl rfl)) rfl (by decide +kernel) ?_; refine Va 9 ?_; refine A_loadp (m' := 975) rfl rfl rfl rfl rfl rfl (by decide +kernel) ?_; refine L_fld (Rd.pers ‹_›) (ty rfl) rfl ?_; refine Va 10 ?_; refine A_qp (m' := 1999) rfl rfl rfl (Q_fieldAddr rfl rfl (fld rfl rfl)) rfl (by decide +kernel) ?_; refine Va 11 ?_; refine A_qp (m' := 4047) rfl rfl rfl (Q_fieldAddr rfl rfl (fld rfl rfl)) rfl (by decide +kernel) ?_; refine Va 12 ?_; refine A_loadp (m' := 8143) rfl rfl rfl rfl rfl rfl (by decide +kernel) ?_; refine L_fld2 (Rd.pers ‹_›) ?_; refine LV_1 (ty rfl) rfl ?_; refine Va 13 ?_; refine A_qp (m' := 16335) rfl rfl rfl (Q_move rfl rfl) rfl (by decide +kernel) ?_; refine Va 14 ?_; refine A_qp (m' := 32719) rfl rfl rfl (Q_indexS ‹_› ‹_› rfl rfl rfl (elm rfl) rfl) rfl (by decide +kernel) ?_; refine Va 15 ?_; refine A_qp (m' := 65487) rfl rfl rfl (Q_fieldAddr rfl rfl (fld rfl rfl)) rfl (by decide +kernel) ?_; refine Va 16 ?_; refine A_loadp (m' := 131023) rfl rfl rfl rfl rfl rfl (by decide +kernel) ?_; refine L_elF ‹_› ‹_› ?_; rintro _ _ _ ⟨xa6_2, xb6_2, xm6_2, pl6_2, ql6_2, rfl, fl6_2⟩; refine LV_1 (ty rfl) rfl ?_; refine Va 4 ?_; refine A_c (m' := 131039) rfl rfl rfl rfl (by decide +kernel) (C_buildSlice rfl (elm rfl) (zer rfl) rfl ⟨_, _, _, rfl, rfl, rfl, rfl, rfl, rfl⟩ rfl rfl ?_); intro b6_3; refine Va 5 ?_; refine A_w (m' := 131071) rfl rfl rfl rfl rfl (by decide +kernel) (W_app1 [] _ ‹_› rfl rfl rfl rfl rfl rfl (elm rfl) (zer rfl) rfl rfl rfl rfl rfl (by (try simp only [lA]); omega) (by (try simp only [lA]); omega) ?_); rintro p6_4 q6_4 m6_4 o6_4; refine Va 17 ?_; refine A_c (m' := 262143) rfl rfl rfl rfl (by decide +kernel) (C_callF (refRefs_s ‹_› ‹_› (by omega)) rfl rfl ⟨_, _, rfl, ⟨_, _, rfl, ⟨_, _, rfl, ⟨_, _, rfl, rfl, rfl⟩, rfl⟩, rfl⟩, rfl⟩ (cal rfl) ?_); rintro h6_5 m6_5 _ l6_5 ⟨e6_5, p6_5, q6_5, rfl, o6_5⟩; replace hO := hO.up l6_5; replace a3_k := a3_k.up l6_5; replace a2_k := a2_k.up l6_5; replace hs := hs.up l6_5; replace ha := ha.up l6_5; replace hf := hf.up l6_5; replace hm := hm.up l6_5; replace fl6_2 := fl6_2.up l6_5; replace o6_4 := o6_4.up l6_5; replace o6_5 := o6_5.up l6_5))
      subst e6_5
      refine Va 18 ?_
      refine A_w (m' := 524287) rfl rfl rfl rfl rfl (by decide +kernel) (OPw_keepM [] m6_5 _ rfl fun h6 hl6 hm6 => ?_)
      refine W_appS (by_ := 16) [] _ (OS.up o6_4 hl6) (OS.sl o6_5 hl6 IDC_mono hm6 (B := 4398046511104) (by simp only [List.length_map]; omega)) rfl rfl rfl rfl rfl rfl (elm rfl) (zer rfl) rfl rfl (by simp only [List.length_map, List.length_append, List.length_cons, List.length_nil]; omega) (by simp only [List.length_map, List.length_append, List.length_cons, List.length_nil]; omega) ?_
      rintro p2 c2 M2 hO2
      clear o6_4 o6_5 hO hm6
      (replace a3_k := a3_k.up hl6; replace a2_k := a2_k.up hl6; replace hs := hs.up hl6; replace ha := ha.up hl6; replace hf := hf.up hl6; replace hm := hm.up hl6; replace fl6_2 := fl6_2.up hl6)
      (focus (refine Va 19 ?_; refine Vs 1048575 ?_; refine A_done (by decide +kernel) ?_; refine block_n ?_; refine then_n ?_; refine R_region ?_; refine Tm ?_; refine Ta ?_; refine Tm ?_; refine OPS_nil ?_))
      refine roundF_n (k + 1, _, p2, c2, M2) (by simp only; omega) ⟨le_trans hl5 hl6, by simp only; omega, ?_, hO2⟩ (by repeat' first | exact sR _ | exact sA _ _ | exact sN _ | apply s2 | apply s1) (by repeat' first | exact trivial | refine ⟨rfl, ?_⟩)
      simp only; rw [hmt, ho]; simp
    have hge : k = x.msg.parcel.mail.length := by omega
    subst hge
    rw [List.take_length] at ho
    subst ho
    (focus (refine WP_seq ?_; refine Wr ?_; refine Tm ?_; refine Tf ?_; refine Tf ?_; refine Tl ?_; refine L_fld2 (Rd.pers ‹_›) ?_; refine LV_1 (ty rfl) rfl ?_; refine Tlen ?_; refine Tc ?_; refine On ?_; refine Wc ?_ ?_ <;> intro c9_1 <;> (first | simp [*] at c9_1; done | try simp at c9_1); refine WP_exit ?_; refine then_e ?_; refine roundF_e ?_; refine block_e ?_; refine then_n ?_; refine Wr ?_; refine Tm ?_; refine Tm ?_; refine On ?_; refine WP_ret ?_; refine block_r ?_; refine then_r ?_))
    exact ret_q M (.inl rfl) rfl ⟨_, _, rfl, rfl, rfl⟩ (by repeat' first | exact sR _ | exact sA _ _ | exact sN _ | apply s2 | apply s1) ⟨p, c, rfl, hO⟩
  · have hfl : refFl vs frm x = [] := by rw [refFl, if_neg c0_3, if_neg c0_6, if_neg c0_8]
    rw [hfl]
    exact ret_q [] (.inl rfl) rfl ⟨_, _, rfl, rfl, rfl⟩ (by repeat' first | exact sR _ | exact sA _ _ | exact sN _ | apply s2 | apply s1) ⟨none, 0, rfl, OS.nil _ _ _ _⟩
def refMoved (vs : List View) (frm : Int) (x : Flight) : Nd := ⟨x.msg.parcel.id, x.msg.parcel.kind, x.msg.parcel.cls, x.msg.parcel.fields.map (valueOf vs frm x.to)⟩
attribute [local irreducible] refFl refMoved
theorem refMoved_s {h : Frag} {a : Value} {ws : List Value} {vs : List View} {frm : Int} {x : Flight} (hs : SL h 13 (ViewC 4398046511104) a vs) (hx : FlightC 4398046511104 h x ws) (hwo : ones ws = true) (h1 : x.msg.parcel.fields.length ≤ 6) :
    PSpec Tryz.prog 47 #[a, .int .i64 frm, .agg ws.toArray] h
    (fun h' v => ∃ p c, v = .agg #[.int .i64 (refMoved vs frm x).id.1, .int .i64 (refMoved vs frm x).id.2, .int .i64 (refMoved vs frm x).kind, .int .i64 (refMoved vs frm x).cls, .slice p (refMoved vs frm x).fields.length c] ∧ SL h' 4 ValC (.slice p (refMoved vs frm x).fields.length c) (refMoved vs frm x).fields) := by
  obtain ⟨ya, yb, yc, yd, ye, pa, qa, pg, qg, ph, qh, yw, y1, y2, y3, y4, y5, y6, y7, y8, y9, y10, y11, y12, y13, y14, y15, rfl, ha, hf, hm⟩ := hx
  refine pspec_of (vs := [a, .int .i64 frm, .agg _]) Tryz.func47 Tryz.ntmps47 rfl rfl ?_
  (focus (refine Wr ?_; refine Tbx ?_; intro b0_1; refine Tal ?_; intro b0_2; refine On ?_; refine Wr ?_; refine Tf ?_; refine Tf ?_; refine Tl ?_; refine L_fld2 (Rd.own m1) ?_; refine LV_a (ty rfl) rfl ?_; refine Tal ?_; intro b0_3; refine Tw u0 ?_; refine On ?_; refine Wr ?_; refine Tf ?_; refine Tl ?_; refine L_sub (Rd.own m0) (ty rfl) rfl ?_; refine Tf ?_; refine Tl ?_; refine Lo m0 ?_; refine Tf ?_; refine Tl ?_; refine Lo m0 ?_; refine S_q rfl rfl rfl (Q_build rfl (by decide +kernel) (zer rfl) ⟨_, _, _, _, _, _, _, rfl, fld rfl rfl, ty rfl, rfl, rfl, ⟨_, _, _, _, _, _, _, rfl, fld rfl rfl, ty rfl, rfl, rfl, ⟨_, _, _, _, _, _, _, rfl, fld rfl rfl, ty rfl, rfl, rfl, rfl, rfl⟩, rfl⟩, rfl⟩ rfl) ?_; refine Tal ?_; intro b0_4; refine Tw u0 ?_; refine On ?_; refine WP_seq ?_; refine Wr ?_; refine Tm ?_; refine On ?_; refine WP_block ?_))
  (focus (refine WP_keepM [_] [_] _ rfl ?_; rintro h1_k l1_k k1_k; have a1_k := at_of_keep k1_k; clear k1_k; replace hs := hs.up l1_k; replace ha := ha.up l1_k; replace hf := hf.up l1_k; replace hm := hm.up l1_k))
  (focus (refine WP_keepM [_, _] [_] _ rfl ?_; rintro h2_k l2_k k2_k; have a2_k := at_of_keep k2_k; clear k2_k; replace a1_k := a1_k.up l2_k; replace hs := hs.up l2_k; replace ha := ha.up l2_k; replace hf := hf.up l2_k; replace hm := hm.up l2_k))
  (refine WP_loopF (α := Nat × List Val × Option Addr × Nat × Hp) [8, 7, 6, 5, 0, 1] (fun (s : Nat × List Val × Option Addr × Nat × Hp) => x.msg.parcel.fields.length - s.1) (fun (s : Nat × List Val × Option Addr × Nat × Hp) => (b0_4, cells [.int .i64 x.msg.parcel.id.1, .int .i64 x.msg.parcel.id.2, .int .i64 x.msg.parcel.kind, .int .i64 x.msg.parcel.cls, .slice s.2.2.1 s.2.1.length s.2.2.2.1] 38) :: (b0_2, cells [.int .i64 0, .int .i64 0, .int .i64 0, .int .i64 0, .slice none 0 0] 38) :: (s.2.2.2.2 ++ [])) (fun (s : Nat × List Val × Option Addr × Nat × Hp) => [(9, .int .i64 (s.1 : Int))]) (fun hh (s : Nat × List Val × Option Addr × Nat × Hp) => hh = h2_k ∧ s.1 ≤ x.msg.parcel.fields.length ∧ s.2.1 = (x.msg.parcel.fields.take s.1).map (valueOf vs frm x.to) ∧ OS h2_k 42 4 ValC (.slice s.2.2.1 s.2.1.length s.2.2.2.1) s.2.1 s.2.2.2.2) (0, [], none, 0, []) ⟨_, _, rfl, ⟨_, _, rfl, ⟨_, _, rfl, ⟨_, _, rfl, ⟨_, _, rfl, ⟨_, _, rfl, rfl, rfl⟩, rfl⟩, rfl⟩, rfl⟩, rfl⟩, rfl⟩ ?_ (by repeat' first | exact sR _ | exact sA _ _ | exact sN _ | apply s2 | apply s1) (by repeat' first | exact trivial | refine ⟨rfl, ?_⟩) ?_)
  · exact ⟨rfl, Nat.zero_le _, rfl, OS.nil _ _ _ _⟩
  rintro h3 ⟨k, fs, p, c, M⟩ _ ⟨rfl, hk, hfe, hO⟩
  simp only at hk hfe hO
  dsimp only
  have hfl : fs.length = k := by rw [hfe]; simp; omega
  by_cases hlt : k < x.msg.parcel.fields.length
  · obtain ⟨r, er⟩ := get_of hlt
    have hmt := map_take (valueOf vs frm x.to) er
    (focus (refine WP_seq ?_; refine Wr ?_; refine Tm ?_; refine Tf ?_; refine Tl ?_; refine L_fld (Rd.pers ‹_›) (ty rfl) rfl ?_; refine Tlen ?_; refine Tc ?_; refine On ?_; refine Wc ?_ ?_ <;> intro c4_1 <;> (first | simp [*] at c4_1; done | try simp at c4_1); refine WP_skip ?_; refine then_n ?_; refine WP_seq ?_; refine WP_block ?_; refine R_draw (n := 16) mixed rfl ?_; refine Va 0 ?_; refine Vf 1 ?_; refine Va 1 ?_; refine Vl 3 ?_; refine Lo m0 ?_; refine Va 2 ?_; refine Vm 7 ?_; refine Va 3 ?_; refine Vm 15 ?_; refine Va 4 ?_; refine Vf 31 ?_; refine Va 5 ?_; refine Vl 63 ?_; refine L_fld (Rd.pers ‹_›) (ty rfl) rfl ?_; refine Va 6 ?_; refine Vf 127 ?_; refine Va 7 ?_; refine Vl 255 ?_; refine L_fld (Rd.pers ‹_›) (ty rfl) rfl ?_; refine Va 8 ?_; refine Vm 511 ?_; refine Va 9 ?_; refine A_q (m' := 1023) rfl rfl rfl (Q_indexS ‹_› ‹_› rfl rfl rfl (elm rfl) rfl) rfl (by decide +kernel) ?_; refine Va 10 ?_; refine Vl 2047 ?_; refine Le ?_; rintro _ _ _ rfl; refine Va 11 ?_; refine A_c (m' := 4095) rfl rfl rfl rfl (by decide +kernel) (C_callv (refValue_s ‹_›) rfl rfl ⟨_, _, rfl, ⟨_, _, rfl, ⟨_, _, rfl, ⟨_, _, rfl, rfl, rfl⟩, rfl⟩, rfl⟩, rfl⟩ (cal rfl) ?_); refine Va 12 ?_; refine A_c (m' := 8191) rfl rfl rfl rfl (by decide +kernel) (C_buildSlice rfl (elm rfl) (zer rfl) rfl ⟨_, _, _, rfl, rfl, rfl, rfl, rfl, rfl⟩ rfl rfl ?_); intro b4_3; refine Va 13 ?_; refine A_w (m' := 16383) rfl rfl rfl rfl rfl (by decide +kernel) (W_app1 [_, _] _ ‹_› rfl rfl rfl rfl rfl rfl (elm rfl) (zer rfl) rfl rfl rfl rfl rfl (by (try simp only [lA]); omega) (by (try simp only [lA]); omega) ?_); rintro p4_4 q4_4 m4_4 o4_4; refine Va 14 ?_; refine Vf 32767 ?_; refine Va 15 ?_; refine A_w0 (m' := 65535) rfl rfl rfl rfl (by decide +kernel) (W_fld rfl rfl rfl (ty rfl) u0 rfl rfl rfl rfl ?_); refine A_done (by decide +kernel) ?_; refine block_n ?_; refine then_n ?_; refine R_region ?_; refine Tm ?_; refine Ta ?_; refine Tm ?_; refine OPS_nil ?_))
    refine roundF_n (k + 1, fs ++ [valueOf vs frm x.to r], p4_4, q4_4, m4_4) (by simp only; omega) ⟨rfl, by simp only; omega, ?_, o4_4⟩ (by repeat' first | exact sR _ | exact sA _ _ | exact sN _ | apply s2 | apply s1) (by repeat' first | exact trivial | refine ⟨rfl, ?_⟩)
    simp only; rw [hmt, hfe]
  have hge : k = x.msg.parcel.fields.length := by omega
  subst hge
  rw [List.take_length] at hfe
  have hmv : refMoved vs frm x = ⟨x.msg.parcel.id, x.msg.parcel.kind, x.msg.parcel.cls, fs⟩ := by rw [refMoved, hfe]
  rw [hmv]
  (focus (refine WP_seq ?_; refine Wr ?_; refine Tm ?_; refine Tf ?_; refine Tl ?_; refine L_fld (Rd.pers ‹_›) (ty rfl) rfl ?_; refine Tlen ?_; refine Tc ?_; refine On ?_; refine Wc ?_ ?_ <;> intro c5_1 <;> (first | simp [*] at c5_1; done | try simp at c5_1); refine WP_exit ?_; refine then_e ?_; refine roundF_e ?_; refine block_e ?_; refine then_n ?_; refine Wr ?_; refine Tl ?_; refine Lg m0 ?_; refine Tw u1 ?_; refine On ?_; refine WP_ret ?_))
  refine pretKM [_, _] M _ rfl (.inl rfl) rfl ⟨_, _, _, rfl, Loads_agg (Rd.own m1) (ty rfl) rfl, rfl, rfl⟩ fun h' hl' hm' => ?_
  exact ⟨p, c, rfl, hO.sl hl' ValC_mono hm' (by omega)⟩
end Go.Proofs.YtfhoecgiahpddaaGreat
/-
  A REGION THAT DRAWS ITS ORDER, THIRD PART: owned blocks that are only read from here on.
-/
set_option linter.all false
namespace Go.Mesh
open Go.RowKit
set_option linter.unusedVariables false
section
variable {P : Program} {r : Option Nat} {N : Nat} {D : List Nat} {ops : Array Oper} {h : Frag} {L : Hp} {fr : Fr} {C : Frag → Hp → Fr → Prop} {fuel : Nat} {listed : Array Bool}
def readyG (ops : Array Oper) (listed : Array Bool) : Bool :=
  !(Region.ready .any ops listed).isEmpty && (Region.ready .any ops listed).all fun i => match ops[i]? with
    | some o => o.guard.isNone
    | none => false
theorem ANY_keepM' (hr : readyG ops listed = true) (A M B : Hp) (hL : L = A ++ (M ++ B)) (x : ∀ h', le h h' → (∀ p, p ∈ M → h' p.1 = some p.2) → ANY P r N D ops (fuel + 1) listed h' (A ++ B) fr C) : ANY P r N D ops (fuel + 1) listed h L fr C := by
  subst hL
  intro a fa
  unfold readyG at hr
  rw [Bool.and_eq_true, List.all_eq_true] at hr
  refine ⟨fun e => by rw [e] at hr; simp at hr, fun i hi => ?_⟩
  have hg := hr.2 i hi
  unfold STEPa
  cases ho : ops[i]? with
  | none => rw [ho] at hg; cases hg
  | some o =>
    simp only [ho] at hg ⊢
    have hg' : o.guard = none := by simpa using hg
    simp only [Region.wanted, hg', if_true]
    intro w hw
    obtain ⟨h', e0, hm⟩ := keepAt hw
    have y := (x h' e0.le hm a fa).2 i hi
    unfold STEPa at y
    simp only [ho, Region.wanted, hg', if_true] at y
    refine Oper.wpIn_mono (fun a' w' ⟨h2, L2, k, e, hc⟩ => ⟨h2, L2, k, e0.trans e, fun hcalm w1 s => ?_⟩) (y w e0.holds)
    have s1 := hc hcalm w1 s
    refine ⟨fun b o' hb => s1.pers b o' (e0.le b o' hb), fun p hp => ?_⟩
    rcases List.mem_append.1 hp with h1 | h1
    · exact s1.own p (by simp [h1])
    · rcases List.mem_append.1 h1 with h1 | h1
      · exact s1.pers _ _ (hm p h1)
      · exact s1.own p (by simp [h1])
/-- the step of the operation at a place -/
def STEPo (P : Program) (r : Option Nat) (N : Nat) (D : List Nat) (l : List Oper) (i : Nat) (o : Oper) (h : Frag) (L : Hp) (fr : Fr) (C : Frag → Hp → Fr → Prop) : Prop := nth l i = some o → STEP P r N D l.toArray i h L fr C
variable {l : List Oper} {o : Oper} {i d : Nat} {C' : Frag → Hp → Fr → Prop}
theorem T_at (hi : nth l i = some o) (x : STEPo P r N D l i o h L fr C') : STEP P r N D l.toArray i h L fr C' := x hi
theorem T_cO (hd : o.dst = some d) (hN : Nat.blt d N = true) (hg : o.guard = none) (x : OPc P r o fr h L (fun h' M v => C' h' (M ++ L) ((d, v) :: fr))) : STEPo P r N D l i o h L fr C' := fun hi => T_c hi hd hN hg x
theorem T_wO (hd : o.dst = some d) (hN : Nat.blt d N = true) (hg : o.guard = none) (hc : calmOp o.op = false) (x : OPw P r o fr h L (fun h' L' v => C' h' L' ((d, v) :: fr))) : STEPo P r N D l i o h L fr C' := fun hi => T_w hi hd hN hg hc x
end
end Go.Mesh
/-
  CONTRACTS: the reference's valid identities, values, nodes, graphs; two nodes merged (refmeshref05.ValidID, refmeshref16).
-/
set_option linter.all false
namespace Go.Proofs.YtfhoecgiahpddaaGreat
open Go.Mesh Go.RowKit
set_option maxRecDepth 100000
set_option linter.unusedVariables false
set_option maxHeartbeats 4000000
attribute [local irreducible] WP OPS ANY ANYo LG LV FSpec PSpec QOP OPc OPw thenQ blockQ roundQ roundF retQ retM Rd At SLB OS cmpI orI cmpID namedB valB nodeB kindB validG valAux idxI findG zeroV viewOf vwAt idxOf recv flyB scionOf moveOf numberedOf idOf valueOf mget mput localB carriedB msgB sizesB smallV fewB stubOf followF followOf flOf flightsOf flPre setL minusL compactL putI mergeN insN insAll unionR NMap Coll retN bodyS GMap Dfs refsV refsOf reachL movedOf movedG graphParts graphR isMove flightIDs mailIDs viewIDs rawRoots rootsR refFl refMoved
theorem refValidID_s (h : Frag) (a : ID) : PSpec Tryz.prog 151 #[.agg (idc a).toArray] h (fun _ v => v = .bool (namedB a)) := by
  refine pspec_of (vs := [.agg (idc a).toArray]) Tryz.func151 Tryz.ntmps151 rfl rfl ?_
  (focus (refine Wr ?_; refine Tbx ?_; intro b0_1; refine Tm ?_; refine On ?_; refine Wr ?_; refine Tf ?_; refine Tl ?_; refine Lo m0 ?_; refine Tc ?_; refine Tm ?_; refine Ugs ?_ ?_ <;> intro c0_2 <;> (first | simp [*] at c0_2; done | try simp at c0_2); (focus (refine Ugf ?_; refine Ugl ?_; refine Lo m0 ?_; refine Ugc ?_; refine Tp1 ?_; refine Tm ?_; refine Ugs ?_ ?_ <;> intro c0_3 <;> (first | simp [*] at c0_3; done | try simp at c0_3); (focus (refine Ugf ?_; refine Ugl ?_; refine Lo m0 ?_; refine Ugc ?_; refine Tp1 ?_; refine Tm ?_; refine Ugs ?_ ?_ <;> intro c0_4 <;> (first | simp [*] at c0_4; done | try simp at c0_4); (focus (refine Ugf ?_; refine Ugl ?_; refine Lo m0 ?_; refine Ugc ?_; refine Tp1 ?_; refine Tm ?_; refine On ?_; refine WP_ret ?_)); rotate_left 1; (focus (refine Tn ?_; refine Tn ?_; refine Tn ?_; refine Tp0 ?_; refine Tm ?_; refine On ?_; refine WP_ret ?_)); rotate_left 1)); rotate_left 2; (focus (refine Tn ?_; refine Tn ?_; refine Tn ?_; refine Tp0 ?_; refine Tm ?_; refine Tn ?_; refine Tn ?_; refine Tn ?_; refine Tp0 ?_; refine Tm ?_; refine On ?_; refine WP_ret ?_)); rotate_left 1)); rotate_left 3; (focus (refine Tn ?_; refine Tn ?_; refine Tn ?_; refine Tp0 ?_; refine Tm ?_; refine Tn ?_; refine Tn ?_; refine Tn ?_; refine Tp0 ?_; refine Tm ?_; refine Tn ?_; refine Tn ?_; refine Tn ?_; refine Tp0 ?_; refine Tm ?_; refine On ?_; refine WP_ret ?_)); rotate_left 1))
  all_goals refine pret (.inl rfl) rfl ⟨_, _, rfl, rfl, rfl⟩ ?_
  all_goals (simp_all [resOf, namedB] <;> omega)
theorem refValidVal_s (h : Frag) (v : Val) : PSpec Tryz.prog 150 #[.agg (vlc v).toArray] h (fun _ u => u = .bool (valB v)) := by
  obtain ⟨k, n, r1, r2⟩ := v
  refine pspec_of (vs := [.agg (vlc (k, n, r1, r2)).toArray]) Tryz.func150 Tryz.ntmps150 rfl rfl ?_
  (focus (refine Wr ?_; refine Tbx ?_; intro b0_1; refine Tm ?_; refine On ?_; refine WP_seq ?_; refine Wr ?_; refine Tf ?_; refine Tl ?_; refine Lo m0 ?_; refine On ?_; refine WP_block ?_; refine Wr ?_; refine Tc ?_; refine Tm ?_; refine On ?_; refine Wc ?_ ?_ <;> intro c0_2 <;> (first | simp [*] at c0_2; done | try simp at c0_2); (focus (refine Wr ?_; refine Tl ?_; refine Lg m0 ?_; refine S_q rfl rfl rfl (Q_build rfl (by decide +kernel) (zer rfl) rfl rfl) ?_; refine S_q rfl rfl rfl (Q_eqV eqVal rfl rfl rfl rfl rfl) ?_; refine Tm ?_; refine On ?_; refine WP_ret ?_; refine block_r ?_; refine then_r ?_)); rotate_left 1; (focus (refine Wr ?_; refine Tc ?_; refine Tm ?_; refine On ?_; refine Wc ?_ ?_ <;> intro c0_3 <;> (first | simp [*] at c0_3; done | try simp at c0_3); (focus (refine Wr ?_; refine Tf ?_; refine Tl ?_; refine L_sub (Rd.own m0) (ty rfl) rfl ?_; refine S_q rfl rfl rfl (Q_build rfl (by decide +kernel) (zer rfl) rfl rfl) ?_; refine S_q rfl rfl rfl (Q_eqI eqID rfl rfl rfl rfl rfl) ?_; refine Tm ?_; refine Ugs ?_ ?_ <;> intro c0_4 <;> (first | simp [*] at c0_4; done | try simp at c0_4); (focus (refine Ugf ?_; refine Ugl ?_; refine Lo m0 ?_; refine Ugc ?_; refine Tp1 ?_; refine Tm ?_; refine Ugs ?_ ?_ <;> intro c0_5 <;> (first | simp [*] at c0_5; done | try simp at c0_5); (focus (refine Ugf ?_; refine Ugl ?_; refine Lo m0 ?_; refine Ugc ?_; refine Tp1 ?_; refine Tm ?_; refine On ?_; refine WP_ret ?_; refine block_r ?_; refine then_r ?_)); rotate_left 1; (focus (refine Tn ?_; refine Tn ?_; refine Tn ?_; refine Tp0 ?_; refine Tm ?_; refine On ?_; refine WP_ret ?_; refine block_r ?_; refine then_r ?_)); rotate_left 1)); rotate_left 2; (focus (refine Tn ?_; refine Tn ?_; refine Tn ?_; refine Tp0 ?_; refine Tm ?_; refine Tn ?_; refine Tn ?_; refine Tn ?_; refine Tp0 ?_; refine Tm ?_; refine On ?_; refine WP_ret ?_; refine block_r ?_; refine then_r ?_)); rotate_left 1)); rotate_left 3; (focus (refine Wr ?_; refine Tc ?_; refine Tm ?_; refine On ?_; refine Wc ?_ ?_ <;> intro c0_6 <;> (first | simp [*] at c0_6; done | try simp at c0_6); (focus (refine Wr ?_; refine Tf ?_; refine Tl ?_; refine Lo m0 ?_; refine Tc ?_; refine Tm ?_; refine Ugs ?_ ?_ <;> intro c0_7 <;> (first | simp [*] at c0_7; done | try simp at c0_7); (focus (refine Ugf ?_; refine Ugl ?_; refine L_sub (Rd.own m0) (ty rfl) rfl ?_; refine S_gc rfl rfl rfl rfl rfl rfl (C_callv (refValidID_s _ (_, _)) rfl rfl ⟨_, _, rfl, rfl, rfl⟩ (cal rfl) ?_); refine Tp1 ?_; refine Tm ?_; refine On ?_; refine WP_ret ?_; refine block_r ?_; refine then_r ?_)); rotate_left 1; (focus (refine Tn ?_; refine Tn ?_; refine Tn ?_; refine Tp0 ?_; refine Tm ?_; refine On ?_; refine WP_ret ?_; refine block_r ?_; refine then_r ?_)); rotate_left 1)); rotate_left 2; (focus (refine WP_skip ?_; refine block_n ?_; refine then_n ?_; refine Wr ?_; refine Tm ?_; refine On ?_; refine WP_ret ?_)); rotate_left 1)); rotate_left 3)); rotate_left 6))
  all_goals refine pret (.inl rfl) rfl ⟨_, _, rfl, rfl, rfl⟩ ?_
  all_goals (simp_all [resOf, valB] <;> omega)
theorem refValidNode_s {h : Frag} {n : Nd} {vs : List Value} (hn : NodeC 4398046511104 h n vs) : PSpec Tryz.prog 124 #[.agg vs.toArray] h (fun _ v => v = .bool (nodeB n)) := by
  obtain ⟨p, c, rfl, hf⟩ := hn
  have hl := hf.le
  obtain ⟨⟨i1, i2⟩, kd, cl, fs⟩ := n
  refine pspec_of (vs := [.agg [Value.int .i64 i1, .int .i64 i2, .int .i64 kd, .int .i64 cl, .slice p fs.length c].toArray]) Tryz.func124 Tryz.ntmps124 rfl rfl ?_
  simp only at hf hl
  (focus (refine Wr ?_; refine Tbx ?_; intro b0_1; refine Tm ?_; refine On ?_; refine WP_seq ?_; refine Wr ?_; refine Tm ?_; refine On ?_; refine WP_block ?_))
  (refine WP_loopC (α := Nat) [1] (fun (k : Nat) => fs.length - k) (fun (k : Nat) => [(3, .int .i64 k)]) (fun hh (k : Nat) => hh = h ∧ k ≤ fs.length ∧ (fs.drop k).all valB = fs.all valB) 0 ⟨_, _, rfl, rfl, rfl⟩ (by repeat' first | exact trivial | refine ⟨rfl, ?_⟩) ?_ ?_)
  · exact ⟨rfl, Nat.zero_le _, rfl⟩
  rintro h1 k _ ⟨rfl, hk, ht⟩
  by_cases hlt : k < fs.length
  · obtain ⟨⟨x1, x2, x3, x4⟩, ex⟩ := get_of hlt
    have had := all_drop (p := valB) ex
    (focus (refine WP_seq ?_; refine Wr ?_; refine Tm ?_; refine Tf ?_; refine Tl ?_; refine Lo m0 ?_; refine Tlen ?_; refine Tc ?_; refine On ?_; refine Wc ?_ ?_ <;> intro c2_1 <;> (first | simp [*] at c2_1; done | try simp at c2_1); refine WP_skip ?_; refine then_n ?_; refine WP_seq ?_; refine WP_block ?_; refine Wr ?_; refine Tf ?_; refine Tl ?_; refine Lo m0 ?_; refine Tm ?_; refine Ti ?_; refine Tl ?_; refine Le ?_; rintro _ _ _ rfl; refine S_c rfl rfl rfl (C_callv (refValidVal_s _ (_, _, (_, _))) rfl rfl ⟨_, _, rfl, rfl, rfl⟩ (cal rfl) ?_); refine S_q rfl rfl rfl (Q_not rfl rfl) ?_; refine On ?_; refine Wc ?_ ?_ <;> intro c2_3 <;> (first | simp [*] at c2_3; done | try simp at c2_3); (focus (refine Wr ?_; refine Tm ?_; refine On ?_; refine WP_ret ?_; refine block_r ?_; refine then_r ?_; refine roundF_r ?_; refine block_r ?_; refine then_r ?_)); rotate_left 1; (focus (refine WP_skip ?_; refine block_n ?_; refine then_n ?_; refine R_region ?_; refine Tm ?_; refine Ta ?_; refine Tm ?_; refine OPS_nil ?_)); rotate_left 1))
    · refine pret (.inl rfl) rfl ⟨_, _, rfl, rfl, rfl⟩ ?_
      have : fs.all valB = false := by rw [← ht, had]; simp_all
      simp [resOf, nodeB, this]
    · refine roundF_n (k + 1) (by omega) ⟨rfl, by omega, ?_⟩ (by repeat' first | exact sR _ | exact sA _ _ | exact sN _ | apply s2 | apply s1) (by repeat' first | exact trivial | refine ⟨rfl, ?_⟩)
      rw [← ht, had]; simp_all
  · have hge : k = fs.length := by omega
    subst hge
    have hall : fs.all valB = true := by rw [← ht]; simp
    have hnb : nodeB ⟨(i1, i2), kd, cl, fs⟩ = (namedB (i1, i2) && decide (0 ≤ cl ∧ cl ≤ 60) && kindB kd cl fs) := by simp only [nodeB, hall]; simp
    clear hall ht
    by_cases h1' : fs.length = 1
    · obtain ⟨⟨x1, x2, x3, x4⟩, ex⟩ := get_of (xs := fs) (k := 0) (by omega)
      have hfs : fs = [(x1, x2, x3, x4)] := by
        match fs, h1', ex with
        | [y], _, e => simp at e; rw [e]
      (focus (refine WP_seq ?_; refine Wr ?_; refine Tm ?_; refine Tf ?_; refine Tl ?_; refine Lo m0 ?_; refine Tlen ?_; refine Tc ?_; refine On ?_; refine Wc ?_ ?_ <;> intro c3_1 <;> (first | simp [*] at c3_1; done | try simp at c3_1); refine WP_exit ?_; refine then_e ?_; refine roundF_e ?_; refine block_e ?_; refine then_n ?_; refine WP_seq ?_; refine Wr ?_; refine Tf ?_; refine Tl ?_; refine L_sub (Rd.own m0) (ty rfl) rfl ?_; refine S_c rfl rfl rfl (C_callv (refValidID_s _ (_, _)) rfl rfl ⟨_, _, rfl, rfl, rfl⟩ (cal rfl) ?_); refine S_q rfl rfl rfl (Q_not rfl rfl) ?_; refine On ?_; refine Wc ?_ ?_ <;> intro c3_2 <;> (first | simp [*] at c3_2; done | try simp at c3_2); (focus (refine Wr ?_; refine Tm ?_; refine On ?_; refine WP_ret ?_; refine then_r ?_)); rotate_left 1; (focus (refine WP_skip ?_; refine then_n ?_; refine WP_seq ?_; refine Wr ?_; refine Tf ?_; refine Tl ?_; refine Lo m0 ?_; refine On ?_; refine WP_block ?_; refine WP_seq ?_; refine Wr ?_; refine Tc ?_; refine Tm ?_; refine On ?_; refine Wc ?_ ?_ <;> intro c3_3 <;> (first | simp [*] at c3_3; done | try simp at c3_3); (focus (refine WP_skip ?_; refine then_n ?_; refine Wc ?_ ?_ <;> intro c3_4 <;> (first | simp [*] at c3_4; done | try simp at c3_4); refine Wr ?_; refine Tf ?_; refine Tl ?_; refine Lo m0 ?_; refine Tc ?_; refine Tm ?_; refine Ugs ?_ ?_ <;> intro c3_5 <;> (first | simp [*] at c3_5; done | try simp at c3_5); (focus (refine Ugf ?_; refine Ugl ?_; refine Lo m0 ?_; refine Ugc ?_; refine Tp1 ?_; refine Tm ?_; refine Ugs ?_ ?_ <;> intro c3_6 <;> (first | simp [*] at c3_6; done | try simp at c3_6); (focus (refine Ugf ?_; refine Ugl ?_; refine Lo m0 ?_; refine S_gq rfl rfl rfl rfl rfl rfl (Q_len rfl rfl rfl rfl rfl rfl) ?_; refine Ugc ?_; refine Tp1 ?_; refine Tm ?_; refine On ?_; refine WP_ret ?_; refine block_r ?_; refine then_r ?_)); rotate_left 1; (focus (refine Tn ?_; refine Tn ?_; refine Tn ?_; refine Tn ?_; refine Tp0 ?_; refine Tm ?_; refine On ?_; refine WP_ret ?_; refine block_r ?_; refine then_r ?_)); rotate_left 1)); rotate_left 2; (focus (refine Tn ?_; refine Tn ?_; refine Tn ?_; refine Tp0 ?_; refine Tm ?_; refine Tn ?_; refine Tn ?_; refine Tn ?_; refine Tn ?_; refine Tp0 ?_; refine Tm ?_; refine On ?_; refine WP_ret ?_; refine block_r ?_; refine then_r ?_)); rotate_left 1)); rotate_left 3; (focus (refine R_region ?_; refine Tc ?_; refine Tm ?_; refine On ?_; refine Wc ?_ ?_ <;> intro c3_7 <;> (first | simp [*] at c3_7; done | try simp at c3_7); (focus (refine Wr ?_; refine Tf ?_; refine Tl ?_; refine Lo m0 ?_; refine Tc ?_; refine Tm ?_; refine Ugs ?_ ?_ <;> intro c3_8 <;> (first | simp [*] at c3_8; done | try simp at c3_8); (focus (refine Ugf ?_; refine Ugl ?_; refine Lo m0 ?_; refine Ugc ?_; refine Tp1 ?_; refine Tm ?_; refine Ugs ?_ ?_ <;> intro c3_9 <;> (first | simp [*] at c3_9; done | try simp at c3_9); (focus (refine Ugf ?_; refine Ugl ?_; refine Lo m0 ?_; refine S_gq rfl rfl rfl rfl rfl rfl (Q_len rfl rfl rfl rfl rfl rfl) ?_; refine Ugc ?_; refine Tp1 ?_; refine Tm ?_; refine On ?_; refine WP_ret ?_; refine block_r ?_; refine then_r ?_)); rotate_left 1; (focus (refine Tn ?_; refine Tn ?_; refine Tn ?_; refine Tn ?_; refine Tp0 ?_; refine Tm ?_; refine On ?_; refine WP_ret ?_; refine block_r ?_; refine then_r ?_)); rotate_left 1)); rotate_left 2; (focus (refine Tn ?_; refine Tn ?_; refine Tn ?_; refine Tp0 ?_; refine Tm ?_; refine Tn ?_; refine Tn ?_; refine Tn ?_; refine Tn ?_; refine Tp0 ?_; refine Tm ?_; refine On ?_; refine WP_ret ?_; refine block_r ?_; refine then_r ?_)); rotate_left 1)); rotate_left 3; (focus (refine Wr ?_; refine Tc ?_; refine Tm ?_; refine On ?_; refine Wc ?_ ?_ <;> intro c3_10 <;> (first | simp [*] at c3_10; done | try simp at c3_10); (focus (refine Wr ?_; refine Tf ?_; refine Tl ?_; refine Lo m0 ?_; refine Tc ?_; refine Tm ?_; refine Ugs ?_ ?_ <;> intro c3_11 <;> (first | simp [*] at c3_11; done | try simp at c3_11); (focus (refine Ugf ?_; refine Ugl ?_; refine Lo m0 ?_; refine S_gq rfl rfl rfl rfl rfl rfl (Q_len rfl rfl rfl rfl rfl rfl) ?_; refine Ugc ?_; refine Tp1 ?_; refine Tm ?_; refine Ugs ?_ ?_ <;> intro c3_12 <;> (first | simp [*] at c3_12; done | try simp at c3_12); refine Ugf ?_; refine Ugl ?_; refine Lo m0 ?_; refine S_gq rfl rfl rfl rfl rfl rfl (Q_indexS ‹_› ‹_› rfl rfl rfl (elm rfl) rfl) ?_; refine Ugf ?_; refine Ugl ?_; refine L_elF ‹_› ‹_› ?_; rintro _ _ _ rfl; refine LV_1 (ty rfl) rfl ?_; refine Ugc ?_; refine Tp1 ?_; refine Tm ?_; refine On ?_; refine WP_ret ?_; refine block_r ?_; refine then_r ?_)); rotate_left 1; (focus (refine Tn ?_; refine Tn ?_; refine Tn ?_; refine Tn ?_; refine Tp0 ?_; refine Tm ?_; refine Tn ?_; refine Tn ?_; refine Tn ?_; refine Tn ?_; refine Tn ?_; refine Tn ?_; refine Tp0 ?_; refine Tm ?_; refine On ?_; refine WP_ret ?_; refine block_r ?_; refine then_r ?_)); rotate_left 1)); rotate_left 2; (focus (refine Wr ?_; refine Tc ?_; refine Tm ?_; refine On ?_; refine Wc ?_ ?_ <;> intro c3_14 <;> (first | simp [*] at c3_14; done | try simp at c3_14); (focus (refine Wr ?_; refine Tf ?_; refine Tl ?_; refine Lo m0 ?_; refine Tc ?_; refine Tm ?_; refine Ugs ?_ ?_ <;> intro c3_15 <;> (first | simp [*] at c3_15; done | try simp at c3_15); (focus (refine Ugf ?_; refine Ugl ?_; refine Lo m0 ?_; refine Ugc ?_; refine Tp1 ?_; refine Tm ?_; refine Ugs ?_ ?_ <;> intro c3_16 <;> (first | simp [*] at c3_16; done | try simp at c3_16); (focus (refine Ugf ?_; refine Ugl ?_; refine Lo m0 ?_; refine S_gq rfl rfl rfl rfl rfl rfl (Q_len rfl rfl rfl rfl rfl rfl) ?_; refine Ugc ?_; refine Tp1 ?_; refine Tm ?_; refine On ?_; refine WP_ret ?_; refine block_r ?_; refine then_r ?_)); rotate_left 1; (focus (refine Tn ?_; refine Tn ?_; refine Tn ?_; refine Tn ?_; refine Tp0 ?_; refine Tm ?_; refine On ?_; refine WP_ret ?_; refine block_r ?_; refine then_r ?_)); rotate_left 1)); rotate_left 2; (focus (refine Tn ?_; refine Tn ?_; refine Tn ?_; refine Tp0 ?_; refine Tm ?_; refine Tn ?_; refine Tn ?_; refine Tn ?_; refine Tn ?_; refine Tp0 ?_; refine Tm ?_; refine On ?_; refine WP_ret ?_; refine block_r ?_; refine then_r ?_)); rotate_left 1)); rotate_left 3; (focus (refine WP_skip ?_; refine block_n ?_; refine then_n ?_; refine Wr ?_; refine Tm ?_; refine On ?_; refine WP_ret ?_)); rotate_left 1)); rotate_left 4)); rotate_left 6)); rotate_left 9)); rotate_left 12))
      all_goals refine pret (.inl rfl) rfl ⟨_, _, rfl, rfl, rfl⟩ ?_
      all_goals (rw [hnb]; clear hnb; subst hfs; simp_all [resOf, kindB, oneB] <;> omega)
    · (focus (refine WP_seq ?_; refine Wr ?_; refine Tm ?_; refine Tf ?_; refine Tl ?_; refine Lo m0 ?_; refine Tlen ?_; refine Tc ?_; refine On ?_; refine Wc ?_ ?_ <;> intro c4_1 <;> (first | simp [*] at c4_1; done | try simp at c4_1); refine WP_exit ?_; refine then_e ?_; refine roundF_e ?_; refine block_e ?_; refine then_n ?_; refine WP_seq ?_; refine Wr ?_; refine Tf ?_; refine Tl ?_; refine L_sub (Rd.own m0) (ty rfl) rfl ?_; refine S_c rfl rfl rfl (C_callv (refValidID_s _ (_, _)) rfl rfl ⟨_, _, rfl, rfl, rfl⟩ (cal rfl) ?_); refine S_q rfl rfl rfl (Q_not rfl rfl) ?_; refine On ?_; refine Wc ?_ ?_ <;> intro c4_2 <;> (first | simp [*] at c4_2; done | try simp at c4_2); (focus (refine Wr ?_; refine Tm ?_; refine On ?_; refine WP_ret ?_; refine then_r ?_)); rotate_left 1; (focus (refine WP_skip ?_; refine then_n ?_; refine WP_seq ?_; refine Wr ?_; refine Tf ?_; refine Tl ?_; refine Lo m0 ?_; refine On ?_; refine WP_block ?_; refine WP_seq ?_; refine Wr ?_; refine Tc ?_; refine Tm ?_; refine On ?_; refine Wc ?_ ?_ <;> intro c4_3 <;> (first | simp [*] at c4_3; done | try simp at c4_3); (focus (refine WP_skip ?_; refine then_n ?_; refine Wc ?_ ?_ <;> intro c4_4 <;> (first | simp [*] at c4_4; done | try simp at c4_4); refine Wr ?_; refine Tf ?_; refine Tl ?_; refine Lo m0 ?_; refine Tc ?_; refine Tm ?_; refine Ugs ?_ ?_ <;> intro c4_5 <;> (first | simp [*] at c4_5; done | try simp at c4_5); (focus (refine Ugf ?_; refine Ugl ?_; refine Lo m0 ?_; refine Ugc ?_; refine Tp1 ?_; refine Tm ?_; refine Ugs ?_ ?_ <;> intro c4_6 <;> (first | simp [*] at c4_6; done | try simp at c4_6); (focus (refine Ugf ?_; refine Ugl ?_; refine Lo m0 ?_; refine S_gq rfl rfl rfl rfl rfl rfl (Q_len rfl rfl rfl rfl rfl rfl) ?_; refine Ugc ?_; refine Tp1 ?_; refine Tm ?_; refine On ?_; refine WP_ret ?_; refine block_r ?_; refine then_r ?_)); rotate_left 1; (focus (refine Tn ?_; refine Tn ?_; refine Tn ?_; refine Tn ?_; refine Tp0 ?_; refine Tm ?_; refine On ?_; refine WP_ret ?_; refine block_r ?_; refine then_r ?_)); rotate_left 1)); rotate_left 2; (focus (refine Tn ?_; refine Tn ?_; refine Tn ?_; refine Tp0 ?_; refine Tm ?_; refine Tn ?_; refine Tn ?_; refine Tn ?_; refine Tn ?_; refine Tp0 ?_; refine Tm ?_; refine On ?_; refine WP_ret ?_; refine block_r ?_; refine then_r ?_)); rotate_left 1)); rotate_left 3; (focus (refine R_region ?_; refine Tc ?_; refine Tm ?_; refine On ?_; refine Wc ?_ ?_ <;> intro c4_7 <;> (first | simp [*] at c4_7; done | try simp at c4_7); (focus (refine Wr ?_; refine Tf ?_; refine Tl ?_; refine Lo m0 ?_; refine Tc ?_; refine Tm ?_; refine Ugs ?_ ?_ <;> intro c4_8 <;> (first | simp [*] at c4_8; done | try simp at c4_8); (focus (refine Ugf ?_; refine Ugl ?_; refine Lo m0 ?_; refine Ugc ?_; refine Tp1 ?_; refine Tm ?_; refine Ugs ?_ ?_ <;> intro c4_9 <;> (first | simp [*] at c4_9; done | try simp at c4_9); (focus (refine Ugf ?_; refine Ugl ?_; refine Lo m0 ?_; refine S_gq rfl rfl rfl rfl rfl rfl (Q_len rfl rfl rfl rfl rfl rfl) ?_; refine Ugc ?_; refine Tp1 ?_; refine Tm ?_; refine On ?_; refine WP_ret ?_; refine block_r ?_; refine then_r ?_)); rotate_left 1; (focus (refine Tn ?_; refine Tn ?_; refine Tn ?_; refine Tn ?_; refine Tp0 ?_; refine Tm ?_; refine On ?_; refine WP_ret ?_; refine block_r ?_; refine then_r ?_)); rotate_left 1)); rotate_left 2; (focus (refine Tn ?_; refine Tn ?_; refine Tn ?_; refine Tp0 ?_; refine Tm ?_; refine Tn ?_; refine Tn ?_; refine Tn ?_; refine Tn ?_; refine Tp0 ?_; refine Tm ?_; refine On ?_; refine WP_ret ?_; refine block_r ?_; refine then_r ?_)); rotate_left 1)); rotate_left 3; (focus (refine Wr ?_; refine Tc ?_; refine Tm ?_; refine On ?_; refine Wc ?_ ?_ <;> intro c4_10 <;> (first | simp [*] at c4_10; done | try simp at c4_10); (focus (refine Wr ?_; refine Tf ?_; refine Tl ?_; refine Lo m0 ?_; refine Tc ?_; refine Tm ?_; refine Ugs ?_ ?_ <;> intro c4_11 <;> (first | simp [*] at c4_11; done | try simp at c4_11); (focus (refine Ugf ?_; refine Ugl ?_; refine Lo m0 ?_; refine S_gq rfl rfl rfl rfl rfl rfl (Q_len rfl rfl rfl rfl rfl rfl) ?_; refine Ugc ?_; refine Tp1 ?_; refine Tm ?_; refine Ugs ?_ ?_ <;> intro c4_12 <;> (first | simp [*] at c4_12; done | try simp at c4_12); (focus (exfalso; omega)); (focus (refine Tn ?_; refine Tn ?_; refine Tn ?_; refine Tn ?_; refine Tn ?_; refine Tn ?_; refine Tp0 ?_; refine Tm ?_; refine On ?_; refine WP_ret ?_; refine block_r ?_; refine then_r ?_)); rotate_left 1)); rotate_left 1; (focus (refine Tn ?_; refine Tn ?_; refine Tn ?_; refine Tn ?_; refine Tp0 ?_; refine Tm ?_; refine Tn ?_; refine Tn ?_; refine Tn ?_; refine Tn ?_; refine Tn ?_; refine Tn ?_; refine Tp0 ?_; refine Tm ?_; refine On ?_; refine WP_ret ?_; refine block_r ?_; refine then_r ?_)); rotate_left 1)); rotate_left 2; (focus (refine Wr ?_; refine Tc ?_; refine Tm ?_; refine On ?_; refine Wc ?_ ?_ <;> intro c4_13 <;> (first | simp [*] at c4_13; done | try simp at c4_13); (focus (refine Wr ?_; refine Tf ?_; refine Tl ?_; refine Lo m0 ?_; refine Tc ?_; refine Tm ?_; refine Ugs ?_ ?_ <;> intro c4_14 <;> (first | simp [*] at c4_14; done | try simp at c4_14); (focus (refine Ugf ?_; refine Ugl ?_; refine Lo m0 ?_; refine Ugc ?_; refine Tp1 ?_; refine Tm ?_; refine Ugs ?_ ?_ <;> intro c4_15 <;> (first | simp [*] at c4_15; done | try simp at c4_15); (focus (refine Ugf ?_; refine Ugl ?_; refine Lo m0 ?_; refine S_gq rfl rfl rfl rfl rfl rfl (Q_len rfl rfl rfl rfl rfl rfl) ?_; refine Ugc ?_; refine Tp1 ?_; refine Tm ?_; refine On ?_; refine WP_ret ?_; refine block_r ?_; refine then_r ?_)); rotate_left 1; (focus (refine Tn ?_; refine Tn ?_; refine Tn ?_; refine Tn ?_; refine Tp0 ?_; refine Tm ?_; refine On ?_; refine WP_ret ?_; refine block_r ?_; refine then_r ?_)); rotate_left 1)); rotate_left 2; (focus (refine Tn ?_; refine Tn ?_; refine Tn ?_; refine Tp0 ?_; refine Tm ?_; refine Tn ?_; refine Tn ?_; refine Tn ?_; refine Tn ?_; refine Tp0 ?_; refine Tm ?_; refine On ?_; refine WP_ret ?_; refine block_r ?_; refine then_r ?_)); rotate_left 1)); rotate_left 3; (focus (refine WP_skip ?_; refine block_n ?_; refine then_n ?_; refine Wr ?_; refine Tm ?_; refine On ?_; refine WP_ret ?_)); rotate_left 1)); rotate_left 4)); rotate_left 6)); rotate_left 9)); rotate_left 12))
      all_goals refine pret (.inl rfl) rfl ⟨_, _, rfl, rfl, rfl⟩ ?_
      all_goals (rw [hnb]; clear hnb hf hl hk hlt; simp only [resOf, kindB, oneB_ne h1']; first | (simp [*]; done) | (simp [*]; omega) | (simp [*, show 0 ≤ cl by omega, show 0 < cl by omega]; done))
theorem refValid_s {h : Frag} {g : List Nd} {vs : List Value} (hg : GraphC 4398046511104 h g vs) : PSpec Tryz.prog 94 #[.agg vs.toArray] h (fun _ v => v = .bool (validG g)) := by
  obtain ⟨p, c, rfl, hf⟩ := hg
  have hl := hf.le
  refine pspec_of (vs := [.agg [Value.slice p g.length c].toArray]) Tryz.func94 Tryz.ntmps94 rfl rfl ?_
  (focus (refine Wr ?_; refine Tbx ?_; intro b0_1; refine Tm ?_; refine On ?_; refine WP_seq ?_; refine Wr ?_; refine Tm ?_; refine On ?_; refine WP_block ?_))
  (refine WP_loopC (α := Nat) [1] (fun (k : Nat) => g.length - k) (fun (k : Nat) => [(3, .int .i64 k)]) (fun hh (k : Nat) => hh = h ∧ k ≤ g.length ∧ valAux (prev g k) (g.drop k) = validG g) 0 ⟨_, _, rfl, rfl, rfl⟩ (by repeat' first | exact trivial | refine ⟨rfl, ?_⟩) ?_ ?_)
  · exact ⟨rfl, Nat.zero_le _, by rw [validG]; rfl⟩
  rintro h1 k _ ⟨rfl, hk, ht⟩
  by_cases hlt : k < g.length
  · obtain ⟨⟨⟨x1, x2⟩, xk, xc, xf⟩, ex⟩ := get_of hlt
    have hs := valAux_drop ex
    rw [ht] at hs
    by_cases h0 : k = 0
    · subst h0
      (focus (refine WP_seq ?_; refine Wr ?_; refine Tm ?_; refine Tf ?_; refine Tl ?_; refine L_one (Rd.own m0) (ty rfl) ?_; refine Tlen ?_; refine Tc ?_; refine On ?_; refine Wc ?_ ?_ <;> intro c2_1 <;> (first | simp [*] at c2_1; done | try simp at c2_1); refine WP_skip ?_; refine then_n ?_; refine WP_seq ?_; refine WP_block ?_; refine WP_seq ?_; refine R_draw (n := 28) mixed rfl ?_; refine Va 0 ?_; refine Vf 1 ?_; refine Va 1 ?_; refine Vl 3 ?_; refine L_one (Rd.own m0) (ty rfl) ?_; refine Va 2 ?_; refine Vm 7 ?_; refine Va 3 ?_; refine A_q (m' := 15) rfl rfl rfl (Q_indexS ‹_› ‹_› rfl rfl rfl (elm rfl) rfl) rfl (by decide +kernel) ?_; refine Va 4 ?_; refine Vl 31 ?_; refine Le ?_; rintro _ _ _ ⟨pn2_2, qn2_2, rfl, fn2_2⟩; refine Va 5 ?_; refine A_c (m' := 63) rfl rfl rfl rfl (by decide +kernel) (C_callv (refValidNode_s ⟨_, _, rfl, by assumption⟩) rfl rfl ⟨_, _, rfl, rfl, rfl⟩ (cal rfl) ?_); refine Va 6 ?_; refine A_q (m' := 127) rfl rfl rfl (Q_not rfl rfl) rfl (by decide +kernel) ?_; refine Va 7 ?_; refine Vm 255 ?_; refine Va 8 ?_; refine Vgs ?_ ?_ <;> intro c2_3 <;> (first | simp [*] at c2_3; done | try simp at c2_3); (focus (refine Va 8 ?_; refine Vn 511 ?_; refine Va 9 ?_; refine Vn 1023 ?_; refine Va 10 ?_; refine Vn 2047 ?_; refine Va 11 ?_; refine Vu 4095 ?_; refine Va 12 ?_; refine Vu 8191 ?_; refine Va 13 ?_; refine Vu 16383 ?_; refine Va 14 ?_; refine Vu 32767 ?_; refine Va 15 ?_; refine Vu 65535 ?_; refine Va 16 ?_; refine Vu 131071 ?_; refine Va 17 ?_; refine Vu 262143 ?_; refine Va 18 ?_; refine Vu 524287 ?_; refine Va 19 ?_; refine Vu 1048575 ?_; refine Va 20 ?_; refine Vu 2097151 ?_; refine Va 21 ?_; refine Vu 4194303 ?_; refine Va 22 ?_; refine Vu 8388607 ?_; refine Va 23 ?_; refine Vu 16777215 ?_; refine Va 24 ?_; refine Vu 33554431 ?_; refine Va 25 ?_; refine Vu 67108863 ?_; refine Va 26 ?_; refine Vn 134217727 ?_; refine Va 27 ?_; refine A_q (m' := 268435455) rfl rfl rfl (Q_pick_t rfl rfl rfl) rfl (by decide +kernel) ?_; refine A_done (by decide +kernel) ?_; refine then_n ?_; refine cond_t rfl ?_; refine Wr ?_; refine Tm ?_; refine On ?_; refine WP_ret ?_; refine block_r ?_; refine then_r ?_; refine roundF_r ?_; refine block_r ?_; refine then_r ?_)); rotate_left 1; (focus (refine Va 8 ?_; refine Vgm 511 ?_; refine Va 9 ?_; refine A_gq (m' := 1023) rfl rfl rfl rfl rfl rfl (Q_cmp rfl rfl rfl rfl) rfl (by decide +kernel) ?_; refine Va 10 ?_; refine Vgm 2047 ?_; refine Va 11 ?_; refine Vgs ?_ ?_ <;> intro c2_4 <;> (first | simp [*] at c2_4; done | try simp at c2_4); refine Va 11 ?_; refine Vn 4095 ?_; refine Va 12 ?_; refine Vn 8191 ?_; refine Va 13 ?_; refine Vn 16383 ?_; refine Va 14 ?_; refine Vn 32767 ?_; refine Va 15 ?_; refine Vn 65535 ?_; refine Va 16 ?_; refine Vn 131071 ?_; refine Va 17 ?_; refine Vn 262143 ?_; refine Va 18 ?_; refine Vn 524287 ?_; refine Va 19 ?_; refine Vn 1048575 ?_; refine Va 20 ?_; refine Vn 2097151 ?_; refine Va 21 ?_; refine Vn 4194303 ?_; refine Va 22 ?_; refine Vn 8388607 ?_; refine Va 23 ?_; refine Vn 16777215 ?_; refine Va 24 ?_; refine Vn 33554431 ?_; refine Va 25 ?_; refine Vn 67108863 ?_; refine Va 26 ?_; refine A_gq (m' := 134217727) rfl rfl rfl rfl rfl rfl (Q_pick_f rfl rfl rfl) rfl (by decide +kernel) ?_; refine Va 27 ?_; refine A_q (m' := 268435455) rfl rfl rfl (Q_pick_f rfl rfl rfl) rfl (by decide +kernel) ?_; refine A_done (by decide +kernel) ?_; refine then_n ?_; refine cond_f rfl ?_; refine WP_skip ?_; refine block_n ?_; refine then_n ?_; refine R_region ?_; refine Tm ?_; refine Ta ?_; refine Tm ?_; refine OPS_nil ?_)); rotate_left 1))
      · refine pret (.inl rfl) rfl ⟨_, _, rfl, rfl, rfl⟩ ?_
        rw [hs]; simp_all [resOf]
      · refine roundF_n 1 (by omega) ⟨rfl, by omega, ?_⟩ (by repeat' first | exact sR _ | exact sA _ _ | exact sN _ | apply s2 | apply s1) (by repeat' first | exact trivial | refine ⟨rfl, ?_⟩)
        rw [hs]; simp_all [prev]
    · obtain ⟨j, rfl⟩ : ∃ j, k = j + 1 := ⟨k - 1, by omega⟩
      obtain ⟨⟨⟨y1, y2⟩, yk, yc, yf⟩, ey⟩ := get_of (xs := g) (k := j) (by omega)
      have hp : prev g (j + 1) = some ⟨(y1, y2), yk, yc, yf⟩ := ey
      rw [hp] at hs
      simp only at hs
      (focus (refine WP_seq ?_; refine Wr ?_; refine Tm ?_; refine Tf ?_; refine Tl ?_; refine L_one (Rd.own m0) (ty rfl) ?_; refine Tlen ?_; refine Tc ?_; refine On ?_; refine Wc ?_ ?_ <;> intro c3_1 <;> (first | simp [*] at c3_1; done | try simp at c3_1); (focus (refine WP_skip ?_; refine then_n ?_; refine WP_seq ?_; refine WP_block ?_; refine WP_seq ?_; refine R_draw (n := 28) mixed rfl ?_; refine Va 0 ?_; refine Vf 1 ?_; refine Va 1 ?_; refine Vl 3 ?_; refine L_one (Rd.own m0) (ty rfl) ?_; refine Va 2 ?_; refine Vm 7 ?_; refine Va 3 ?_; refine A_q (m' := 15) rfl rfl rfl (Q_indexS ‹_› ‹_› rfl rfl rfl (elm rfl) rfl) rfl (by decide +kernel) ?_; refine Va 4 ?_; refine Vl 31 ?_; refine Le ?_; rintro _ _ _ ⟨pn3_2, qn3_2, rfl, fn3_2⟩; refine Va 5 ?_; refine A_c (m' := 63) rfl rfl rfl rfl (by decide +kernel) (C_callv (refValidNode_s ⟨_, _, rfl, by assumption⟩) rfl rfl ⟨_, _, rfl, rfl, rfl⟩ (cal rfl) ?_); refine Va 6 ?_; refine A_q (m' := 127) rfl rfl rfl (Q_not rfl rfl) rfl (by decide +kernel) ?_; refine Va 7 ?_; refine Vm 255 ?_; refine Va 8 ?_; refine Vgs ?_ ?_ <;> intro c3_3 <;> (first | simp [*] at c3_3; done | try simp at c3_3); (focus (refine Va 8 ?_; refine Vn 511 ?_; refine Va 9 ?_; refine Vn 1023 ?_; refine Va 10 ?_; refine Vn 2047 ?_; refine Va 11 ?_; refine Vu 4095 ?_; refine Va 12 ?_; refine Vu 8191 ?_; refine Va 13 ?_; refine Vu 16383 ?_; refine Va 14 ?_; refine Vu 32767 ?_; refine Va 15 ?_; refine Vu 65535 ?_; refine Va 16 ?_; refine Vu 131071 ?_; refine Va 17 ?_; refine Vu 262143 ?_; refine Va 18 ?_; refine Vu 524287 ?_; refine Va 19 ?_; refine Vu 1048575 ?_; refine Va 20 ?_; refine Vu 2097151 ?_; refine Va 21 ?_; refine Vu 4194303 ?_; refine Va 22 ?_; refine Vu 8388607 ?_; refine Va 23 ?_; refine Vu 16777215 ?_; refine Va 24 ?_; refine Vu 33554431 ?_; refine Va 25 ?_; refine Vu 67108863 ?_; refine Va 26 ?_; refine Vn 134217727 ?_; refine Va 27 ?_; refine A_q (m' := 268435455) rfl rfl rfl (Q_pick_t rfl rfl rfl) rfl (by decide +kernel) ?_; refine A_done (by decide +kernel) ?_; refine then_n ?_; refine cond_t rfl ?_; refine Wr ?_; refine Tm ?_; refine On ?_; refine WP_ret ?_; refine block_r ?_; refine then_r ?_; refine roundF_r ?_; refine block_r ?_; refine then_r ?_)); rotate_left 1; (focus (refine Va 8 ?_; refine Vgm 511 ?_; refine Va 9 ?_; refine A_gq (m' := 1023) rfl rfl rfl rfl rfl rfl (Q_cmp rfl rfl rfl rfl) rfl (by decide +kernel) ?_; refine Va 10 ?_; refine Vgm 2047 ?_; refine Va 11 ?_; refine Vgs ?_ ?_ <;> intro c3_4 <;> (first | simp [*] at c3_4; done | try simp at c3_4); refine Va 11 ?_; refine A_gq (m' := 4095) rfl rfl rfl rfl rfl rfl (Q_fieldAddr rfl rfl (fld rfl rfl)) rfl (by decide +kernel) ?_; refine Va 12 ?_; refine Vgl 8191 ?_; refine L_one (Rd.own m0) (ty rfl) ?_; refine Va 13 ?_; refine Vgm 16383 ?_; refine Va 14 ?_; refine A_gq (m' := 32767) rfl rfl rfl rfl rfl rfl (Q_sub rfl rfl rfl (by omega)) rfl (by decide +kernel) ?_; refine Va 15 ?_; refine A_gq (m' := 65535) rfl rfl rfl rfl rfl rfl (Q_indexS ‹_› ‹_› rfl rfl rfl (elm rfl) (by omega)) rfl (by decide +kernel) ?_; refine Va 16 ?_; refine A_gq (m' := 131071) rfl rfl rfl rfl rfl rfl (Q_fieldAddr rfl rfl (fld rfl rfl)) rfl (by decide +kernel) ?_; refine Va 17 ?_; refine Vgl 262143 ?_; refine L_elF ‹_› ‹_› ?_; rintro _ _ _ ⟨pn3_5, qn3_5, rfl, fn3_5⟩; refine LV_a (ty rfl) rfl ?_; refine Va 18 ?_; refine A_gq (m' := 524287) rfl rfl rfl rfl rfl rfl (Q_fieldAddr rfl rfl (fld rfl rfl)) rfl (by decide +kernel) ?_; refine Va 19 ?_; refine Vgl 1048575 ?_; refine L_one (Rd.own m0) (ty rfl) ?_; refine Va 20 ?_; refine Vgm 2097151 ?_; refine Va 21 ?_; refine A_gq (m' := 4194303) rfl rfl rfl rfl rfl rfl (Q_indexS ‹_› ‹_› rfl rfl rfl (elm rfl) rfl) rfl (by decide +kernel) ?_; refine Va 22 ?_; refine A_gq (m' := 8388607) rfl rfl rfl rfl rfl rfl (Q_fieldAddr rfl rfl (fld rfl rfl)) rfl (by decide +kernel) ?_; refine Va 23 ?_; refine Vgl 16777215 ?_; refine L_elF ‹_› ‹_› ?_; rintro _ _ _ ⟨pn3_6, qn3_6, rfl, fn3_6⟩; refine LV_a (ty rfl) rfl ?_; refine Va 24 ?_; refine A_gc (m' := 33554431) rfl rfl rfl rfl rfl rfl rfl (by decide +kernel) (C_callv (refCmp16_s _ (_, _) (_, _)) rfl rfl ⟨_, _, rfl, ⟨_, _, rfl, rfl, rfl⟩, rfl⟩ (cal rfl) ?_); refine Va 25 ?_; refine A_gq (m' := 67108863) rfl rfl rfl rfl rfl rfl (Q_cmp rfl rfl rfl rfl) rfl (by decide +kernel) ?_; refine Va 26 ?_; refine A_gq (m' := 134217727) rfl rfl rfl rfl rfl rfl (Q_pick_t rfl rfl rfl) rfl (by decide +kernel) ?_; refine Va 27 ?_; refine A_q (m' := 268435455) rfl rfl rfl (Q_pick_f rfl rfl rfl) rfl (by decide +kernel) ?_; refine A_done (by decide +kernel) ?_; refine then_n ?_; refine Wc ?_ ?_ <;> intro c3_7 <;> (first | simp [*] at c3_7; done | try simp at c3_7); (focus (refine Wr ?_; refine Tm ?_; refine On ?_; refine WP_ret ?_; refine block_r ?_; refine then_r ?_; refine roundF_r ?_; refine block_r ?_; refine then_r ?_)); rotate_left 1; (focus (refine WP_skip ?_; refine block_n ?_; refine then_n ?_; refine R_region ?_; refine Tm ?_; refine Ta ?_; refine Tm ?_; refine OPS_nil ?_)); rotate_left 1)); rotate_left 2)); rotate_left 3; (focus (exfalso; omega))))
      · refine pret (.inl rfl) rfl ⟨_, _, rfl, rfl, rfl⟩ ?_
        rw [hs]; clear hs ht; simp [resOf, *]
      · refine pret (.inl rfl) rfl ⟨_, _, rfl, rfl, rfl⟩ ?_
        rw [hs]; clear hs ht; simp [resOf, *]; intro hh; omega
      · refine roundF_n (j + 2) (by omega) ⟨rfl, by omega, ?_⟩ (by repeat' first | exact sR _ | exact sA _ _ | exact sN _ | apply s2 | apply s1) (by repeat' first | exact trivial | refine ⟨rfl, ?_⟩)
        rw [hs]; clear hs ht; simp [*]
  · have hge : k = g.length := by omega
    subst hge
    (focus (refine WP_seq ?_; refine Wr ?_; refine Tm ?_; refine Tf ?_; refine Tl ?_; refine L_one (Rd.own m0) (ty rfl) ?_; refine Tlen ?_; refine Tc ?_; refine On ?_; refine Wc ?_ ?_ <;> intro c4_1 <;> (first | simp [*] at c4_1; done | try simp at c4_1); refine WP_exit ?_; refine then_e ?_; refine roundF_e ?_; refine block_e ?_; refine then_n ?_; refine Wr ?_; refine Tm ?_; refine On ?_; refine WP_ret ?_))
    refine pret (.inl rfl) rfl ⟨_, _, rfl, rfl, rfl⟩ ?_
    rw [← ht, List.drop_length, valAux]; rfl
/-- the node that a merge leaves -/
def refMg (o n : Nd) : Nd := if (o.kind == 3) = (n.kind == 3) then o else if o.kind = 3 then n else o
theorem mergeN_ref (o n : Nd) : mergeN o n = if (mergeN o n).isSome then some (refMg o n) else none := by
  unfold mergeN refMg
  split
  · split <;> rfl
  · split <;> rfl
theorem refMerge_s {h : Frag} {n m : Nd} {vs us : List Value} (hn : NodeC 4398046511104 h n vs) (hm : NodeC 4398046511104 h m us) : PSpec Tryz.prog 126 #[.agg vs.toArray, .agg us.toArray] h
    (fun h' v => ∃ ws, v = .tuple #[.agg ws.toArray, .bool (mergeN n m).isSome] ∧ ws.length = 5 ∧ ones ws = true ∧ NodeC 4398046511104 h' (refMg n m) ws) := by
  obtain ⟨p, c, rfl, hf⟩ := hn
  obtain ⟨p', c', rfl, hg⟩ := hm
  obtain ⟨⟨i1, i2⟩, kd, cl, fs⟩ := n
  obtain ⟨⟨j1, j2⟩, kd', cl', fs'⟩ := m
  simp only at hf hg
  refine pspec_of (vs := [.agg [Value.int .i64 i1, .int .i64 i2, .int .i64 kd, .int .i64 cl, .slice p fs.length c].toArray, .agg [Value.int .i64 j1, .int .i64 j2, .int .i64 kd', .int .i64 cl', .slice p' fs'.length c'].toArray]) Tryz.func126 Tryz.ntmps126 rfl rfl ?_
  (focus (refine Wr ?_; refine Tbx ?_; intro b0_1; refine Tbx ?_; intro b0_2; refine Tal ?_; intro b0_3; refine Tm ?_; refine On ?_; refine WP_seq ?_; refine Wr ?_; refine Tf ?_; refine Tl ?_; refine Lo m2 ?_; refine Tc ?_; refine Tf ?_; refine Tl ?_; refine Lo m1 ?_; refine Tc ?_; refine S_q rfl rfl rfl (Q_beq rfl rfl rfl rfl) ?_; refine On ?_; refine Wc ?_ ?_ <;> intro c0_4 <;> (first | simp [*] at c0_4; done | try simp at c0_4); (focus (refine WP_seq ?_; refine R_draw (n := 6) mixed rfl ?_; refine Va 0 ?_; refine Vl 1 ?_; refine Lg m2 ?_; refine Va 1 ?_; refine Vl 3 ?_; refine Lg m2 ?_; refine Va 2 ?_; refine Vl 7 ?_; refine Lg m1 ?_; refine Va 3 ?_; refine A_c (m' := 15) rfl rfl rfl rfl (by decide +kernel) (C_callv (refSameNode_s (n := ⟨(_, _), _, _, _⟩) (m := ⟨(_, _), _, _, _⟩) ⟨_, _, rfl, by assumption⟩ ⟨_, _, rfl, by assumption⟩) rfl rfl ⟨_, _, rfl, ⟨_, _, rfl, rfl, rfl⟩, rfl⟩ (cal rfl) ?_); refine Va 4 ?_; refine A_w0 (m' := 31) rfl rfl rfl rfl (by decide +kernel) (W_all rfl rfl rfl (ty rfl) u0 (by first | rfl | assumption) (by first | rfl | assumption) (by first | rfl | assumption | exact ones_sub ‹_› _ _) ?_); refine Va 5 ?_; refine Vs 63 ?_; refine A_done (by decide +kernel) ?_; refine then_n ?_; refine WP_ret ?_; refine then_r ?_)); rotate_left 1; (focus (refine WP_skip ?_; refine then_n ?_; refine WP_seq ?_; refine Wr ?_; refine Tf ?_; refine Tl ?_; refine Lo m2 ?_; refine Tc ?_; refine On ?_; refine Wc ?_ ?_ <;> intro c0_5 <;> (first | simp [*] at c0_5; done | try simp at c0_5); (focus (refine WP_seq ?_; refine R_draw (n := 8) mixed rfl ?_; refine Va 0 ?_; refine Vl 1 ?_; refine Lg m1 ?_; refine Va 1 ?_; refine A_qp (m' := 3) rfl rfl rfl (Q_fieldAddr rfl rfl (fld rfl rfl)) rfl (by decide +kernel) ?_; refine Va 3 ?_; refine A_qp (m' := 11) rfl rfl rfl (Q_fieldAddr rfl rfl (fld rfl rfl)) rfl (by decide +kernel) ?_)); rotate_left 1; (focus (refine WP_skip ?_; refine then_n ?_; refine WP_seq ?_; refine R_draw (n := 8) mixed rfl ?_; refine Va 0 ?_; refine Vl 1 ?_; refine Lg m2 ?_; refine Va 1 ?_; refine A_qp (m' := 3) rfl rfl rfl (Q_fieldAddr rfl rfl (fld rfl rfl)) rfl (by decide +kernel) ?_; refine Va 3 ?_; refine A_qp (m' := 11) rfl rfl rfl (Q_fieldAddr rfl rfl (fld rfl rfl)) rfl (by decide +kernel) ?_)); rotate_left 1)); rotate_left 2))
  · refine pret (.inl rfl) rfl ⟨_, _, _, rfl, Loads_agg (Rd.own m0) (ty rfl) rfl, ⟨_, _, rfl, rfl, rfl⟩, rfl⟩ ?_
    have hms : (mergeN ⟨(i1, i2), kd, cl, fs⟩ ⟨(j1, j2), kd', cl', fs'⟩).isSome = decide ((⟨(i1, i2), kd, cl, fs⟩ : Nd) = ⟨(j1, j2), kd', cl', fs'⟩) := by
      rw [mergeN, if_pos c0_4]; split <;> simp [*]
    rw [hms, refMg, if_pos c0_4]
    exact ⟨_, rfl, rfl, rfl, _, _, rfl, hf⟩
  · (focus (refine ANY_keepM' (by decide +kernel) [_] [_] _ rfl ?_; rintro h1_k l1_k k1_k; have a1_k := at_of_keep k1_k; clear k1_k; replace hf := hf.up l1_k; replace hg := hg.up l1_k))
    (focus (refine ANY_keepM' (by decide +kernel) [_] [_] _ rfl ?_; rintro h2_k l2_k k2_k; have a2_k := at_of_keep k2_k; clear k2_k; replace a1_k := a1_k.up l2_k; replace hf := hf.up l2_k; replace hg := hg.up l2_k))
    (focus (refine Va 2 ?_; refine A_loadp (m' := 15) rfl rfl rfl rfl rfl rfl (by decide +kernel) ?_; refine L_fld (Rd.pers ‹_›) (ty rfl) rfl ?_; refine Va 4 ?_; refine A_loadp (m' := 31) rfl rfl rfl rfl rfl rfl (by decide +kernel) ?_; refine L_fld (Rd.pers ‹_›) (ty rfl) rfl ?_; refine Va 5 ?_; refine A_qp (m' := 63) rfl rfl rfl (Q_cmp rfl rfl rfl rfl) rfl (by decide +kernel) ?_; refine Va 6 ?_; refine A_w0 (m' := 127) rfl rfl rfl rfl (by decide +kernel) (W_all rfl rfl rfl (ty rfl) u0 (by first | rfl | assumption) (by first | rfl | assumption) (by first | rfl | assumption | exact ones_sub ‹_› _ _) ?_); refine Va 7 ?_; refine Vs 255 ?_; refine A_done (by decide +kernel) ?_; refine then_n ?_; refine WP_ret ?_; refine then_r ?_))
    refine pret (.inl rfl) rfl ⟨_, _, _, rfl, Loads_agg (Rd.own m0) (ty rfl) rfl, ⟨_, _, rfl, rfl, rfl⟩, rfl⟩ ?_
    have hms : (mergeN ⟨(i1, i2), kd, cl, fs⟩ ⟨(j1, j2), kd', cl', fs'⟩).isSome = (cl == cl') := by
      rw [mergeN, if_neg c0_4]; simp only; split <;> simp [*]
    rw [hms, refMg, if_neg c0_4, if_pos c0_5]
    exact ⟨_, rfl, rfl, rfl, _, _, rfl, hg⟩
  · (focus (refine ANY_keepM' (by decide +kernel) [_] [_] _ rfl ?_; rintro h4_k l4_k k4_k; have a4_k := at_of_keep k4_k; clear k4_k; replace hf := hf.up l4_k; replace hg := hg.up l4_k))
    (focus (refine ANY_keepM' (by decide +kernel) [_] [_] _ rfl ?_; rintro h5_k l5_k k5_k; have a5_k := at_of_keep k5_k; clear k5_k; replace a4_k := a4_k.up l5_k; replace hf := hf.up l5_k; replace hg := hg.up l5_k))
    (focus (refine Va 2 ?_; refine A_loadp (m' := 15) rfl rfl rfl rfl rfl rfl (by decide +kernel) ?_; refine L_fld (Rd.pers ‹_›) (ty rfl) rfl ?_; refine Va 4 ?_; refine A_loadp (m' := 31) rfl rfl rfl rfl rfl rfl (by decide +kernel) ?_; refine L_fld (Rd.pers ‹_›) (ty rfl) rfl ?_; refine Va 5 ?_; refine A_qp (m' := 63) rfl rfl rfl (Q_cmp rfl rfl rfl rfl) rfl (by decide +kernel) ?_; refine Va 6 ?_; refine A_w0 (m' := 127) rfl rfl rfl rfl (by decide +kernel) (W_all rfl rfl rfl (ty rfl) u0 (by first | rfl | assumption) (by first | rfl | assumption) (by first | rfl | assumption | exact ones_sub ‹_› _ _) ?_); refine Va 7 ?_; refine Vs 255 ?_; refine A_done (by decide +kernel) ?_; refine then_n ?_; refine WP_ret ?_))
    refine pret (.inl rfl) rfl ⟨_, _, _, rfl, Loads_agg (Rd.own m0) (ty rfl) rfl, ⟨_, _, rfl, rfl, rfl⟩, rfl⟩ ?_
    have hms : (mergeN ⟨(i1, i2), kd, cl, fs⟩ ⟨(j1, j2), kd', cl', fs'⟩).isSome = (cl == cl') := by
      rw [mergeN, if_neg c0_4]; simp only; split <;> simp [*]
    rw [hms, refMg, if_neg c0_4, if_neg c0_5]
    exact ⟨_, rfl, rfl, rfl, _, _, rfl, hf⟩
end Go.Proofs.YtfhoecgiahpddaaGreat
/-
  RULES: an element of an owned slice is overwritten.
-/
set_option linter.all false
namespace Go.Mesh
open Go.RowKit
set_option linter.unusedVariables false
section
variable {α : Type} {h : Frag} {k e : Nat} {C : CR α} {v : Value} {xs : List α} {M : Hp}
theorem OS.cut1 (s : OS h e k C v xs M) (h0 : 0 < xs.length) : ∃ b cap us rest, v = .slice (some ⟨b, 0, none⟩) xs.length cap ∧ M = [(b, cells (us ++ rest) e)] ∧ xs.length ≤ cap ∧ us.length + rest.length = cap * k ∧ Flat h k C xs us := by
  obtain ⟨us, ⟨hu, ⟨rfl, h1, _⟩ | ⟨b, cap, rest, rfl, rfl, h2, h3⟩⟩, f⟩ := s
  · omega
  · exact ⟨b, cap, us, rest, rfl, rfl, h3, h2, f⟩
theorem OS.glue {b n cap : Nat} {us rest : List Value} (hn : n = xs.length) (hc : xs.length ≤ cap) (hl : us.length + rest.length = cap * k) (f : Flat h k C xs us) : OS h e k C (.slice (some ⟨b, 0, none⟩) n cap) xs [(b, cells (us ++ rest) e)] := by
  subst hn
  exact ⟨us, ⟨f.length, .inr ⟨b, cap, rest, rfl, rfl, hl, hc⟩⟩, f⟩
theorem Flat.set : ∀ {xs : List α} {us : List Value} {j : Nat} {y : α} {vs : List Value}, Flat h k C xs us → j < xs.length → vs.length = k → Mesh.ones vs = true → C h y vs → Flat h k C (xs.set j y) (putAt us (j * k) vs)
  | x :: xs, _, 0, y, vs, ⟨a, b, e1, e2, e3, e4, e5⟩, _, hl, ho, hc => by
    subst e1
    refine ⟨vs, b, ?_, hl, ho, hc, e5⟩
    simp [putAt, hl, ← e2]
  | x :: xs, _, j + 1, y, vs, ⟨a, b, e1, e2, e3, e4, e5⟩, hj, hl, ho, hc => by
    subst e1
    have ih := Flat.set (j := j) e5 (by simpa using hj) hl ho hc
    refine ⟨a, putAt b (j * k) vs, ?_, e2, e3, e4, ih⟩
    simp only [putAt, Nat.add_mul, Nat.one_mul, hl]
    have h1 : List.drop (j * k + k + k) a = [] := List.drop_eq_nil_of_le (by rw [e2]; omega)
    rw [List.take_append, List.drop_append, e2, List.take_of_length_le (by rw [e2]; omega), h1, show j * k + k - k = j * k by omega, show j * k + k + k - k = j * k + k by omega]
    simp
variable {P : Program} {r : Option Nat} {L : Hp} {fr : Fr} {o : Oper} {K : OCont} {j : Nat} {y : α}
/-- xs[j] = y -/
theorem W_setO {t : TypeId} {p z : Operand} {vs : List Value} (A B : Hp) (hos : OS h e k C v xs M) (hj : j < xs.length) (hop : o.op = .store t p z) (hp : ev fr p = some (ptr (blk v) (ofs v + j * k))) (hz : ev fr z = some (.agg vs.toArray)) (ht : tyOf P t = some (true, k)) (hvs : vs.length = k) (h1 : ones vs = true) (hy : C h y vs)
    (hL : L = A ++ (M ++ B)) (kk : ∀ M', OS h e k C v (xs.set j y) M' → K h (A ++ (M' ++ B)) undef) : OPw P r o fr h L K := by
  obtain ⟨b, cap, us, rest, rfl, rfl, hc, hlen, f⟩ := hos.cut1 (by omega)
  have hul := f.length
  have hle : j * k + k ≤ us.length := by
    have : (j + 1) * k ≤ xs.length * k := Nat.mul_le_mul_right _ hj
    rw [Nat.add_mul, Nat.one_mul] at this
    rw [hul]; exact this
  have hput : putAt (us ++ rest) (0 + j * k) vs = putAt us (j * k) vs ++ rest := by
    rw [Nat.zero_add]
    simp only [putAt, hvs]
    rw [List.take_append_of_le_length (by omega), List.drop_append_of_le_length (by omega)]
    simp
  have hfs := f.set hj hvs h1 hy
  have hpl : (putAt us (j * k) vs).length = us.length := putAt_length (by rw [hvs]; exact hle)
  have hos' : OS h e k C (.slice (some ⟨b, 0, none⟩) xs.length cap) (xs.set j y) [(b, cells (putAt us (j * k) vs ++ rest) e)] := OS.glue (by simp) (by simpa using hc) (by rw [hpl]; exact hlen) hfs
  refine W_put (v := .agg vs.toArray) (vs := vs) (l := us ++ rest) (bt := e) (b := b) (off := 0 + j * k) hop hp hz rfl ht hvs h1 (L' := A ++ ([(b, cells (putAt us (j * k) vs ++ rest) e)] ++ B)) ?_ ?_ (kk _ hos')
  · rw [hput, hL]
    exact ⟨A, B, by simp, by simp⟩
  · simp only [List.length_append, hvs]; omega
end
end Go.Mesh
/-
  RULES: parts of slices whose capacity is known.
-/
set_option linter.all false
namespace Go.Mesh
open Go.RowKit
set_option linter.unusedVariables false
section
variable {α : Type} {B : Nat} {h : Frag} {k e : Nat} {C : CR α} {v : Value} {xs : List α} {M : Hp}
theorem OS.cap {p : Option Addr} {n c : Nat} (s : OS h e k C (.slice p n c) xs M) : n = xs.length ∧ n ≤ c := by
  obtain ⟨us, ⟨hu, ⟨h0, h1, _⟩ | ⟨b, cap, rest, h0, rfl, h2, h3⟩⟩, f⟩ := s
  · cases h0; exact ⟨by omega, by omega⟩
  · cases h0; exact ⟨rfl, h3⟩
/-- v[:u] -/
def toV (p : Option Addr) (k u cap : Nat) : Value := .slice (if cap = 0 then p else p.map (·.add (0 * k))) u cap
/-- v[u:] -/
def fromV (p : Option Addr) (k u n cap : Nat) : Value := .slice (if cap = u then p else p.map (·.add (u * k))) (n - u) (cap - u)
theorem SLB.toV {p : Option Addr} {n cap u : Nat} (s : SLB B h k C (.slice p n cap) xs) (hc : n ≤ cap) (hu : u ≤ n) : SLB B h k C (toV p k u cap) (xs.take u) := by
  obtain ⟨hm, ⟨p', c', e, rfl⟩ | ⟨b, off, c', e, g⟩⟩ := s
  · cases e
    have : u = 0 := by omega
    subst this
    exact SLB.nil _ _ _ _ _ _
  · cases e
    have hl : (xs.take u).length = u := by rw [List.length_take]; omega
    unfold Mesh.toV
    by_cases h0 : cap = 0
    · have : xs.take u = [] := by apply List.eq_nil_of_length_eq_zero; omega
      rw [this]
      have : u = 0 := by omega
      subst this
      exact SLB.nil _ _ _ _ _ _
    · refine ⟨by omega, .inr ⟨b, off, cap, ?_, fun i x hx => ?_⟩⟩
      · rw [if_neg h0, hl]; simp [Addr.add]
      · rw [List.getElem?_take] at hx
        split at hx
        · exact g i x hx
        · cases hx
theorem SLB.fromV {p : Option Addr} {n cap u : Nat} (s : SLB B h k C (.slice p n cap) xs) (hc : n ≤ cap) (hu : u ≤ n) : SLB B h k C (fromV p k u n cap) (xs.drop u) := by
  obtain ⟨hm, ⟨p', c', e, rfl⟩ | ⟨b, off, c', e, g⟩⟩ := s
  · cases e
    have : u = 0 := by omega
    subst this
    exact SLB.nil _ _ _ _ _ _
  · cases e
    have hl : (xs.drop u).length = xs.length - u := List.length_drop
    unfold Mesh.fromV
    by_cases h0 : cap = u
    · have h1 : xs.drop u = [] := by apply List.eq_nil_of_length_eq_zero; omega
      rw [h1]
      have : xs.length - u = 0 := by omega
      rw [this]
      exact SLB.nil _ _ _ _ _ _
    · refine ⟨by omega, .inr ⟨b, off + u * k, cap - u, ?_, fun i x hx => ?_⟩⟩
      · rw [if_neg h0, hl]; simp [Addr.add]
      · rw [List.getElem?_drop] at hx
        obtain ⟨vs, h1, h2, h3, h4⟩ := g _ x hx
        rw [Nat.add_mul, ← Nat.add_assoc] at h4
        exact ⟨vs, h1, h2, h3, h4⟩
variable {P : Program} {r : Option Nat} {L : Hp} {fr : Fr} {o : Oper}
theorem Q_slTo {t e k by_ : Nat} {s x : Operand} {p : Option Addr} {n cap u : Nat} {q : IntKind} (hop : o.op = .slice t s none (some x) none) (hs : ev fr s = some (.slice p n cap)) (he : elemOf? P t = some (e, k, by_)) (hx : ev fr x = some (.int q (u : Int))) (hu : u ≤ cap) :
    QOP P o fr h L (toV p k u cap) :=
  ⟨fun c => by rw [hop]; simp, fun a ha w _ => by
    obtain ⟨hu', i0, hi0, hk, _⟩ := elemOf?_spec he
    unfold execOp; rw [hop]
    have huc' : ((u : Int) ≤ (cap : Int)) := by omega
    simp [toV, ha s _ hs, ha x _ hx, Instr.sliceAt, run_underlying' hu', Instr.slice, Instr.sliceBounds, Instr.sliceBound, asIntOf, huc', hu, sizeOf, typeInfo, hi0, hk]⟩
theorem Q_slFrom {t e k by_ : Nat} {s x : Operand} {p : Option Addr} {n cap u : Nat} {q : IntKind} (hop : o.op = .slice t s (some x) none none) (hs : ev fr s = some (.slice p n cap)) (he : elemOf? P t = some (e, k, by_)) (hx : ev fr x = some (.int q (u : Int))) (hu : u ≤ n) :
    QOP P o fr h L (fromV p k u n cap) :=
  ⟨fun c => by rw [hop]; simp, fun a ha w _ => by
    obtain ⟨hu', i0, hi0, hk, _⟩ := elemOf?_spec he
    unfold execOp; rw [hop]
    have huc' : ((u : Int) ≤ (n : Int)) := by omega
    simp [fromV, ha s _ hs, ha x _ hx, Instr.sliceAt, run_underlying' hu', Instr.slice, Instr.sliceBounds, Instr.sliceBound, asIntOf, huc', hu, sizeOf, typeInfo, hi0, hk]⟩
theorem L_oelF {α : Type} {h : Frag} {k j fo e : Nat} {C : CR α} {v : Value} {xs : List α} {x : α} {M L : Hp} {P : Program} {t : TypeId} {K : Value → Prop} (A B' : Hp) (s : OS h e k C v xs M) (hx : xs[j]? = some x) (hL : L = A ++ (M ++ B')) (kk : ∀ vs, vs.length = k → ones vs = true → C h x vs → LV P vs fo t K) : LG P h L (blk v) (ofs v + j * k + fo) t K := by
  obtain ⟨_, _, vs, h1, h2, h3, h4⟩ := s.at hx
  exact LV.lg (h4 L (fun p hp => by rw [hL]; simp [hp])) (kk vs h1 h2 h3)
/-- append(xs, y): the block of the one element stands behind what is owned -/
theorem W_app1b {α : Type} {h : Frag} {k ee : Nat} {C : CR α} {K : OCont} {L : Hp} {fr : Fr} {P : Program} {r : Option Nat} {o : Oper} {c : Call} {s x : Operand} {t by_ b : Nat} {v : Value} {xs : List α} {y : α} {vs z : List Value} {M : Hp} (A A2 : Hp) (hos : OS h ee k C v xs M) (hop : o.op = .call c) (hc : c.callee = .builtin .append) (ha : c.args = #[s, x]) (hat : c.argTypes = #[t, t])
    (hs : ev fr s = some v) (hx : ev fr x = some (.slice (some ⟨b, 0, none⟩) 1 1)) (he : elemOf? P t = some (ee, k, by_)) (hz : zeroOf P ee = some z) (hzk : z.length = k) (hL : L = A ++ (M ++ ((b, cells vs ee) :: A2))) (hvs : vs.length = k) (h1 : ones vs = true) (hy : C h y vs)
    (hb : (xs.length + 1) * by_ ≤ 140737488355328) (hnm : xs.length + 1 ≤ 9223372036854775807) (kk : ∀ p c M', OS h ee k C (.slice p (xs ++ [y]).length c) (xs ++ [y]) M' → K h (A ++ (M' ++ A2)) (.slice p (xs ++ [y]).length c)) : OPw P r o fr h L K := by
  refine OPw_perm (L2 := (b, cells vs ee) :: (A ++ (M ++ A2))) (by rw [hL, ← List.append_assoc, ← List.append_assoc]; exact List.perm_middle) ?_
  exact W_app1 A A2 hos hop hc ha hat hs hx he hz hzk rfl hvs h1 hy hb hnm kk
end
end Go.Mesh
/-
  RULES: a block behind appended blocks; a block of one element.
-/
set_option linter.all false
namespace Go.Mesh
open Go.RowKit
theorem mAp {α : Type} {x : α} {M L : List α} (h : x ∈ L) : x ∈ M ++ L := List.mem_append.2 (.inr h)
theorem OS.one1 (h : Frag) (e k : Nat) {α : Type} {C : CR α} {b : Nat} {y : α} {us : List Value} (hl : us.length = k) (ho : ones us = true) (hy : C h y us) : OS h e k C (.slice (some ⟨b, 0, none⟩) 1 1) [y] [(b, cells us e)] := by
  unfold OS
  exact ⟨us, Row.lit (by simpa using hl), Flat.one hl ho hy⟩
theorem perm2 {α : Type} {a b : α} : List.Perm [a, b] [b, a] := List.reverse_perm [b, a]
theorem perm3 {α : Type} {a b c : α} : List.Perm [a, b, c] [c, b, a] := List.reverse_perm [c, b, a]
/-- a cut behind a piece of code: what is known there, what is owned, the slots -/
theorem WP_cutS {α : Type} {P : Program} {r : Option Nat} {N : Nat} {h : Frag} {L : Hp} {D : List Nat} {fr : Fr} {Q : Post} {x y : Code} (Inv : Frag → α → Prop) (Lf : α → Hp) (ff : α → Fr)
    (hx : WP P r N x h L D fr (fun e h' L' D' fr' => e = .normal ∧ D' = D ∧ ∃ a, Inv h' a ∧ List.Sublist (Lf a) L' ∧ FrSub (ff a) fr'))
    (k : ∀ h' a, le h h' → Inv h' a → WP P r N y h' (Lf a) D (ff a) Q) : WP P r N (.seq x y) h L D fr Q := by
  refine WP_seq (WP.mono hx ?_)
  rintro e h' L' D' fr' hl ⟨rfl, rfl, a, hi, hs, hf⟩
  exact WP.drop hs (WP.sub hf (k h' a hl hi))
end Go.Mesh
/-
  CONTRACTS: a node put into a graph by the reference (refmeshref16.Put).
-/
set_option linter.all false
namespace Go.Proofs.YtfhoecgiahpddaaGreat
open Go.Mesh Go.RowKit
set_option maxRecDepth 100000
set_option linter.unusedVariables false
set_option maxHeartbeats 4000000
attribute [local irreducible] WP OPS ANY ANYo LG LV FSpec PSpec QOP OPc OPw thenQ blockQ roundQ roundF retQ retM Rd At SLB OS cmpI orI cmpID namedB valB nodeB kindB validG valAux idxI findG zeroV viewOf vwAt idxOf recv flyB scionOf moveOf numberedOf idOf valueOf mget mput localB carriedB msgB sizesB smallV fewB stubOf followF followOf flOf flightsOf flPre setL minusL compactL putI mergeN insN insAll unionR NMap Coll retN bodyS GMap Dfs refsV refsOf reachL movedOf movedG graphParts graphR isMove flightIDs mailIDs viewIDs rawRoots rootsR refFl refMoved
/-- what the reference puts, and whether it could -/
def refPut : List Nd → Nd → List Nd × Bool
  | [], n => ([n], true)
  | y :: l, n => if cmpID y.id n.id < 0 then (y :: (refPut l n).1, (refPut l n).2) else if y.id = n.id then (refMg y n :: l, (mergeN y n).isSome) else (n :: y :: l, true)
theorem insN_ref : ∀ (g : List Nd) (n : Nd), insN g n = if (refPut g n).2 then some (refPut g n).1 else none
  | [], n => by simp [insN, refPut]
  | y :: l, n => by
    unfold insN refPut
    split
    · rw [insN_ref l n]; simp only; split <;> rfl
    · split
      · rw [mergeN_ref]; simp only; split <;> rfl
      · rfl
theorem refPut_lt {g : List Nd} {n x : Nd} {k : Nat} (hx : g[k]? = some x) (hc : cmpID x.id n.id < 0) (ht : refPut g n = (g.take k ++ (refPut (g.drop k) n).1, (refPut (g.drop k) n).2)) : refPut g n = (g.take (k + 1) ++ (refPut (g.drop (k + 1)) n).1, (refPut (g.drop (k + 1)) n).2) := by
  rw [drop_get hx, refPut, if_pos hc] at ht
  rw [ht, List.take_add_one, hx]; simp
theorem refPut_eq {g : List Nd} {n x : Nd} {k : Nat} (hx : g[k]? = some x) (hc : ¬ cmpID x.id n.id < 0) (he : x.id = n.id) (ht : refPut g n = (g.take k ++ (refPut (g.drop k) n).1, (refPut (g.drop k) n).2)) : refPut g n = (g.set k (refMg x n), (mergeN x n).isSome) := by
  rw [drop_get hx, refPut, if_neg hc, if_pos he] at ht
  rw [ht]
  have hlt := (List.getElem?_eq_some_iff.1 hx).1
  rw [List.set_eq_take_append_cons_drop, if_pos hlt]
theorem refPut_ne {g : List Nd} {n x : Nd} {k : Nat} (hx : g[k]? = some x) (hc : ¬ cmpID x.id n.id < 0) (he : ¬ x.id = n.id) (ht : refPut g n = (g.take k ++ (refPut (g.drop k) n).1, (refPut (g.drop k) n).2)) : refPut g n = (g.take k ++ [n] ++ g.drop k, true) := by
  rw [drop_get hx, refPut, if_neg hc, if_neg he] at ht
  rw [ht, drop_get hx]; simp
theorem refPut_end {g : List Nd} {n : Nd} (ht : refPut g n = (g.take g.length ++ (refPut (g.drop g.length) n).1, (refPut (g.drop g.length) n).2)) : refPut g n = (g.take g.length ++ [n] ++ g.drop g.length, true) := by
  rw [ht]; simp [refPut]
attribute [local irreducible] refPut
theorem refPut_s {h : Frag} {g : List Nd} {n : Nd} {vs us : List Value} (hg : GraphC 4398046511104 h g vs) (hn : NodeC 4398046511104 h n us) (hb : g.length ≤ 1000000) : PSpec Tryz.prog 95 #[.agg vs.toArray, .agg us.toArray] h
    (fun h' v => ∃ ws, v = .tuple #[.agg ws.toArray, .bool (refPut g n).2] ∧ GraphC 4398046511104 h' (refPut g n).1 ws) := by
  obtain ⟨p, c, rfl, hf⟩ := hg
  obtain ⟨p', c', rfl, hf'⟩ := hn
  obtain ⟨⟨i1, i2⟩, kd, cl, fs⟩ := n
  simp only at hf'
  refine pspec_of (vs := [.agg [Value.slice p g.length c].toArray, .agg [Value.int .i64 i1, .int .i64 i2, .int .i64 kd, .int .i64 cl, .slice p' fs.length c'].toArray]) Tryz.func95 Tryz.ntmps95 rfl rfl ?_
  (focus (refine Wr ?_; refine Tbx ?_; intro b0_1; refine Tbx ?_; intro b0_2; refine Tal ?_; intro b0_3; refine Tm ?_; refine On ?_; refine Wr ?_; refine Tm ?_; refine On ?_; refine WP_seq ?_; refine WP_block ?_))
  (focus (refine WP_keepM [_] [_] _ rfl ?_; rintro h1_k l1_k k1_k; have a1_k := at_of_keep k1_k; clear k1_k; replace hf := hf.up l1_k; replace hf' := hf'.up l1_k))
  (focus (refine WP_keepM [_] [_] _ rfl ?_; rintro h2_k l2_k k2_k; have a2_k := at_of_keep k2_k; clear k2_k; replace a1_k := a1_k.up l2_k; replace hf := hf.up l2_k; replace hf' := hf'.up l2_k))
  (refine WP_loopC (α := Nat) [4, 3, 2] (fun (k : Nat) => g.length - k) (fun (k : Nat) => [(6, .int .i64 k)]) (fun hh (k : Nat) => hh = h2_k ∧ k ≤ g.length ∧ refPut g ⟨(i1, i2), kd, cl, fs⟩ = (g.take k ++ (refPut (g.drop k) ⟨(i1, i2), kd, cl, fs⟩).1, (refPut (g.drop k) ⟨(i1, i2), kd, cl, fs⟩).2)) 0 ⟨_, _, rfl, ⟨_, _, rfl, ⟨_, _, rfl, rfl, rfl⟩, rfl⟩, rfl⟩ (by repeat' first | exact trivial | refine ⟨rfl, ?_⟩) ?_ ?_)
  · exact ⟨rfl, Nat.zero_le _, by simp⟩
  rintro h1 k _ ⟨rfl, hk, ht⟩
  by_cases hlt : k < g.length
  · obtain ⟨⟨⟨x1, x2⟩, xk, xc, xf⟩, ex⟩ := get_of hlt
    by_cases hc : cmpID (x1, x2) (i1, i2) < 0
    · (focus (refine WP_seq ?_; refine WP_seq ?_; refine R_draw (n := 17) mixed rfl ?_; refine Va 0 ?_; refine Vm 1 ?_; refine Va 1 ?_; refine Vf 3 ?_; refine Va 2 ?_; refine Vl 7 ?_; refine L_fld (Rd.pers ‹_›) (ty rfl) rfl ?_; refine Va 3 ?_; refine A_q (m' := 15) rfl rfl rfl (Q_len rfl rfl rfl rfl rfl rfl) rfl (by decide +kernel) ?_; refine Va 4 ?_; refine A_q (m' := 31) rfl rfl rfl (Q_cmp rfl rfl rfl rfl) rfl (by decide +kernel) ?_; refine Va 5 ?_; refine Vm 63 ?_; refine Va 6 ?_; refine Vgs ?_ ?_ <;> intro c4_1 <;> (first | simp [*] at c4_1; done | try simp at c4_1); refine Va 6 ?_; refine A_gq (m' := 127) rfl rfl rfl rfl rfl rfl (Q_fieldAddr rfl rfl (fld rfl rfl)) rfl (by decide +kernel) ?_; refine Va 7 ?_; refine Vgl 255 ?_; refine L_fld (Rd.pers ‹_›) (ty rfl) rfl ?_; refine Va 8 ?_; refine Vgm 511 ?_; refine Va 9 ?_; refine A_gq (m' := 1023) rfl rfl rfl rfl rfl rfl (Q_indexS ‹_› ‹_› rfl rfl rfl (elm rfl) rfl) rfl (by decide +kernel) ?_; refine Va 10 ?_; refine A_gq (m' := 2047) rfl rfl rfl rfl rfl rfl (Q_fieldAddr rfl rfl (fld rfl rfl)) rfl (by decide +kernel) ?_; refine Va 11 ?_; refine Vgl 4095 ?_; refine L_elF ‹_› ‹_› ?_; rintro _ _ _ ⟨pn4_2, qn4_2, rfl, fn4_2⟩; refine LV_a (ty rfl) rfl ?_; refine Va 12 ?_; refine A_gq (m' := 8191) rfl rfl rfl rfl rfl rfl (Q_fieldAddr rfl rfl (fld rfl rfl)) rfl (by decide +kernel) ?_; refine Va 13 ?_; refine Vgl 16383 ?_; refine L_sub (Rd.pers ‹_›) (ty rfl) rfl ?_; refine Va 14 ?_; refine A_gc (m' := 32767) rfl rfl rfl rfl rfl rfl rfl (by decide +kernel) (C_callv (refCmp16_s _ (_, _) (_, _)) rfl rfl ⟨_, _, rfl, ⟨_, _, rfl, rfl, rfl⟩, rfl⟩ (cal rfl) ?_); refine Va 15 ?_; refine A_gq (m' := 65535) rfl rfl rfl rfl rfl rfl (Q_cmp rfl rfl rfl rfl) rfl (by decide +kernel) ?_; refine Va 16 ?_; refine A_q (m' := 131071) rfl rfl rfl (Q_pick_t rfl rfl rfl) rfl (by decide +kernel) ?_; refine A_done (by decide +kernel) ?_; refine then_n ?_; refine Wc ?_ ?_ <;> intro c4_3 <;> (first | simp [*] at c4_3; done | try simp at c4_3); refine WP_skip ?_; refine then_n ?_; refine WP_block ?_; refine R_region ?_; refine Tm ?_; refine Ta ?_; refine Tm ?_; refine OPS_nil ?_; refine block_n ?_))
      exact roundF_n (k + 1) (by omega) ⟨rfl, by omega, refPut_lt ex hc ht⟩ (by repeat' first | exact sR _ | exact sA _ _ | exact sN _ | apply s2 | apply s1) (by repeat' first | exact trivial | refine ⟨rfl, ?_⟩)
    by_cases he : (x1, x2) = (i1, i2)
    · have hr := refPut_eq ex hc he ht
      (focus (refine WP_seq ?_; refine WP_seq ?_; refine R_draw (n := 17) mixed rfl ?_; refine Va 0 ?_; refine Vm 1 ?_; refine Va 1 ?_; refine Vf 3 ?_; refine Va 2 ?_; refine Vl 7 ?_; refine L_fld (Rd.pers ‹_›) (ty rfl) rfl ?_; refine Va 3 ?_; refine A_q (m' := 15) rfl rfl rfl (Q_len rfl rfl rfl rfl rfl rfl) rfl (by decide +kernel) ?_; refine Va 4 ?_; refine A_q (m' := 31) rfl rfl rfl (Q_cmp rfl rfl rfl rfl) rfl (by decide +kernel) ?_; refine Va 5 ?_; refine Vm 63 ?_; refine Va 6 ?_; refine Vgs ?_ ?_ <;> intro c5_1 <;> (first | simp [*] at c5_1; done | try simp at c5_1); refine Va 6 ?_; refine A_gq (m' := 127) rfl rfl rfl rfl rfl rfl (Q_fieldAddr rfl rfl (fld rfl rfl)) rfl (by decide +kernel) ?_; refine Va 7 ?_; refine Vgl 255 ?_; refine L_fld (Rd.pers ‹_›) (ty rfl) rfl ?_; refine Va 8 ?_; refine Vgm 511 ?_; refine Va 9 ?_; refine A_gq (m' := 1023) rfl rfl rfl rfl rfl rfl (Q_indexS ‹_› ‹_› rfl rfl rfl (elm rfl) rfl) rfl (by decide +kernel) ?_; refine Va 10 ?_; refine A_gq (m' := 2047) rfl rfl rfl rfl rfl rfl (Q_fieldAddr rfl rfl (fld rfl rfl)) rfl (by decide +kernel) ?_; refine Va 11 ?_; refine Vgl 4095 ?_; refine L_elF ‹_› ‹_› ?_; rintro _ _ _ ⟨pn5_2, qn5_2, rfl, fn5_2⟩; refine LV_a (ty rfl) rfl ?_; refine Va 12 ?_; refine A_gq (m' := 8191) rfl rfl rfl rfl rfl rfl (Q_fieldAddr rfl rfl (fld rfl rfl)) rfl (by decide +kernel) ?_; refine Va 13 ?_; refine Vgl 16383 ?_; refine L_sub (Rd.pers ‹_›) (ty rfl) rfl ?_; refine Va 14 ?_; refine A_gc (m' := 32767) rfl rfl rfl rfl rfl rfl rfl (by decide +kernel) (C_callv (refCmp16_s _ (_, _) (_, _)) rfl rfl ⟨_, _, rfl, ⟨_, _, rfl, rfl, rfl⟩, rfl⟩ (cal rfl) ?_); refine Va 15 ?_; refine A_gq (m' := 65535) rfl rfl rfl rfl rfl rfl (Q_cmp rfl rfl rfl rfl) rfl (by decide +kernel) ?_; refine Va 16 ?_; refine A_q (m' := 131071) rfl rfl rfl (Q_pick_t rfl rfl rfl) rfl (by decide +kernel) ?_; refine A_done (by decide +kernel) ?_; refine then_n ?_; refine Wc ?_ ?_ <;> intro c5_3 <;> (first | simp [*] at c5_3; done | try simp at c5_3); (focus (exfalso; omega)); (focus (refine WP_exit ?_; refine then_e ?_; refine roundF_e ?_; refine block_e ?_; refine then_n ?_; refine Wr ?_; refine S_c rfl rfl rfl (C_buildSlice rfl (elm rfl) (zer rfl) rfl rfl rfl rfl ?_); intro b5_4; refine Tf ?_; refine Tl ?_; refine L_fld (Rd.pers ‹_›) (ty rfl) rfl ?_; refine S_w rfl rfl rfl (W_appS [] _ (OS.lit0 _ _ _ _ _) ‹_› rfl rfl rfl rfl rfl rfl (elm rfl) (zer rfl) rfl rfl (by (try simp only [lA]); omega) (by (try simp only [lA]); omega) ?_); rintro p5_5 q5_5 m5_5 o5_5; refine Tm ?_; refine On ?_; refine WP_seq ?_; refine WP_seq ?_; refine R_draw (n := 14) mixed rfl ?_; refine Va 0 ?_; refine Vm 1 ?_; refine Va 1 ?_; refine Vm 3 ?_; refine Va 2 ?_; refine A_q (m' := 7) rfl rfl rfl (Q_len rfl rfl rfl rfl rfl rfl) rfl (by decide +kernel) ?_; refine Va 3 ?_; refine A_q (m' := 15) rfl rfl rfl (Q_cmp rfl rfl rfl rfl) rfl (by decide +kernel) ?_; refine Va 4 ?_; refine Vm 31 ?_; refine Va 5 ?_; refine Vgs ?_ ?_ <;> intro c5_6 <;> (first | simp [*] at c5_6; done | try simp at c5_6); refine Va 5 ?_; refine Vgm 63 ?_; refine Va 6 ?_; refine Vgm 127 ?_; refine Va 7 ?_; refine A_gq (m' := 255) rfl rfl rfl rfl rfl rfl (Q_indexO ‹_› ‹_› rfl rfl rfl (elm rfl) rfl) rfl (by decide +kernel) ?_; refine Va 8 ?_; refine A_gq (m' := 511) rfl rfl rfl rfl rfl rfl (Q_fieldAddr rfl rfl (fld rfl rfl)) rfl (by decide +kernel) ?_; refine Va 9 ?_; refine Vgl 1023 ?_; refine L_oelF [] _ ‹_› ‹_› rfl ?_; rintro _ _ _ ⟨pn5_7, qn5_7, rfl, fn5_7⟩; refine LV_a (ty rfl) rfl ?_; refine Va 10 ?_; refine A_gq (m' := 2047) rfl rfl rfl rfl rfl rfl (Q_fieldAddr rfl rfl (fld rfl rfl)) rfl (by decide +kernel) ?_; refine Va 11 ?_; refine Vgl 4095 ?_; refine L_sub (Rd.pers ‹_›) (ty rfl) rfl ?_; refine Va 12 ?_; refine A_gq (m' := 8191) rfl rfl rfl rfl rfl rfl (Q_eqI eqID rfl rfl rfl rfl rfl) rfl (by decide +kernel) ?_; refine Va 13 ?_; refine A_q (m' := 16383) rfl rfl rfl (Q_pick_t rfl rfl rfl) rfl (by decide +kernel) ?_; refine A_done (by decide +kernel) ?_; refine then_n ?_; refine Wc ?_ ?_ <;> intro c5_8 <;> (first | simp [*] at c5_8; done | try simp at c5_8); refine WP_seq ?_; refine R_draw (n := 12) mixed rfl ?_; refine Va 0 ?_; refine Vm 1 ?_; refine Va 1 ?_; refine Vm 3 ?_; refine Va 2 ?_; refine A_q (m' := 7) rfl rfl rfl (Q_indexO ‹_› ‹_› rfl rfl rfl (elm rfl) rfl) rfl (by decide +kernel) ?_; refine Va 3 ?_; refine Vl 15 ?_; refine L_oelA [] _ ‹_› ‹_› rfl (ty rfl) ?_; rintro _ _ _ ⟨pn5_9, qn5_9, rfl, fn5_9⟩; refine Va 4 ?_; refine Vl 31 ?_; refine Lp ?_; refine A_two 5 9 (mi := 63) (mj := 543) rfl rfl (by decide +kernel) rfl rfl ?_ ?_; (focus (refine T_at rfl ?_; refine T_cO rfl rfl rfl (C_call (refMerge_s (n := ⟨(_, _), _, _, _⟩) (m := ⟨(_, _), _, _, _⟩) ⟨_, _, rfl, by assumption⟩ ⟨_, _, rfl, by assumption⟩) rfl rfl ⟨_, _, rfl, ⟨_, _, rfl, rfl, rfl⟩, rfl⟩ (cal rfl) ?_); rintro h5_10 _ l5_10 ⟨cv5_10, rfl, cl5_10, co5_10, ⟨pn5_10, qn5_10, rfl, fn5_10⟩⟩; replace a2_k := a2_k.up l5_10; replace a1_k := a1_k.up l5_10; replace hf := hf.up l5_10; replace hf' := hf'.up l5_10; replace fn5_2 := fn5_2.up l5_10; replace o5_5 := o5_5.up l5_10; replace fn5_7 := fn5_7.up l5_10; replace fn5_9 := fn5_9.up l5_10; refine Va 6 ?_; refine Vm 127 ?_; refine Va 7 ?_; refine A_q (m' := 255) rfl rfl rfl (Q_extract rfl rfl rfl) rfl (by decide +kernel) ?_; refine Va 8 ?_; refine A_qp (m' := 511) rfl rfl rfl (Q_extract rfl rfl rfl) rfl (by decide +kernel) ?_; refine Va 9 ?_; refine A_c (m' := 1023) rfl rfl rfl rfl (by decide +kernel) (C_alloc rfl (zer rfl) ?_); intro b5_11; refine Va 10 ?_; refine A_w0 (m' := 2047) rfl rfl rfl rfl (by decide +kernel) (W_all rfl rfl rfl (ty rfl) u0 (by first | rfl | assumption) (by first | rfl | assumption) (by first | rfl | assumption | exact ones_sub ‹_› _ _) ?_); refine Va 11 ?_; refine Vs 4095 ?_; refine A_done (by decide +kernel) ?_; refine then_n ?_; refine Wr ?_; refine Tm ?_; refine Tm ?_; refine Tl ?_; refine Lg m0 ?_; refine S_q rfl rfl rfl (Q_indexO ‹_› ‹_› rfl rfl rfl (elm rfl) rfl) ?_)); rotate_left 1; (focus (refine T_at rfl ?_; refine T_cO rfl rfl rfl (C_alloc rfl (zer rfl) ?_); intro b5_12; refine Va 5 ?_; refine A_c (m' := 575) rfl rfl rfl rfl (by decide +kernel) (C_call (refMerge_s (n := ⟨(_, _), _, _, _⟩) (m := ⟨(_, _), _, _, _⟩) ⟨_, _, rfl, by assumption⟩ ⟨_, _, rfl, by assumption⟩) rfl rfl ⟨_, _, rfl, ⟨_, _, rfl, rfl, rfl⟩, rfl⟩ (cal rfl) ?_); rintro h5_13 _ l5_13 ⟨cv5_13, rfl, cl5_13, co5_13, ⟨pn5_13, qn5_13, rfl, fn5_13⟩⟩; replace a2_k := a2_k.up l5_13; replace a1_k := a1_k.up l5_13; replace hf := hf.up l5_13; replace hf' := hf'.up l5_13; replace fn5_2 := fn5_2.up l5_13; replace o5_5 := o5_5.up l5_13; replace fn5_7 := fn5_7.up l5_13; replace fn5_9 := fn5_9.up l5_13; refine Va 6 ?_; refine Vm 639 ?_; refine Va 7 ?_; refine A_q (m' := 767) rfl rfl rfl (Q_extract rfl rfl rfl) rfl (by decide +kernel) ?_; refine Va 8 ?_; refine A_qp (m' := 1023) rfl rfl rfl (Q_extract rfl rfl rfl) rfl (by decide +kernel) ?_; refine Va 10 ?_; refine A_w0 (m' := 2047) rfl rfl rfl rfl (by decide +kernel) (W_all rfl rfl rfl (ty rfl) u0 (by first | rfl | assumption) (by first | rfl | assumption) (by first | rfl | assumption | exact ones_sub ‹_› _ _) ?_); refine Va 11 ?_; refine Vs 4095 ?_; refine A_done (by decide +kernel) ?_; refine then_n ?_; refine Wr ?_; refine Tm ?_; refine Tm ?_; refine Tl ?_; refine Lg m0 ?_; refine S_q rfl rfl rfl (Q_indexO ‹_› ‹_› rfl rfl rfl (elm rfl) rfl) ?_)); rotate_left 1)); rotate_left 2))
      all_goals refine S_w0 rfl rfl (W_setO (j := k) (y := refMg ⟨(x1, x2), xk, xc, xf⟩ ⟨(i1, i2), kd, cl, fs⟩) [_] _ o5_5 (by simpa using hlt) rfl rfl rfl (ty rfl) rfl rfl ⟨_, _, rfl, by assumption⟩ rfl ?_)
      all_goals intro M' hO'
      · (focus (refine On ?_; refine Wr ?_; refine Tm ?_; refine S_q rfl rfl rfl (Q_build rfl (by decide +kernel) (zer rfl) ⟨_, _, _, _, _, _, _, rfl, fld rfl rfl, ty rfl, rfl, rfl, rfl, rfl⟩ rfl) ?_; refine Tm ?_; refine Tw (Upd.skip _ (Upd.skip _ u0)) ?_; refine Tm ?_; refine On ?_; refine WP_ret ?_; refine then_r ?_))
        rw [hr]
        refine pretKM [_] M' _ rfl (.inl rfl) rfl ⟨_, _, _, rfl, Loads_agg (Rd.own (mAp (M := [_]) (mAp m0))) (ty rfl) (by rfl), ⟨_, _, rfl, rfl, rfl⟩, rfl⟩ fun h' hl' hm' => ?_
        have hz := hO'.sl hl' (NodeC_mono _) hm' (B := 4398046511104) (by simp; omega)
        refine ⟨_, rfl, p5_5, q5_5, by rw [List.length_set]; rfl, ?_⟩
        rw [List.length_set]; exact hz
      · (focus (refine On ?_; refine Wr ?_; refine Tm ?_; refine S_q rfl rfl rfl (Q_build rfl (by decide +kernel) (zer rfl) ⟨_, _, _, _, _, _, _, rfl, fld rfl rfl, ty rfl, rfl, rfl, rfl, rfl⟩ rfl) ?_; refine Tm ?_; refine Tw (Upd.skip _ (Upd.skip _ u0)) ?_; refine Tm ?_; refine On ?_; refine WP_ret ?_; refine then_r ?_))
        rw [hr]
        refine pretKM [_] M' _ rfl (.inl rfl) rfl ⟨_, _, _, rfl, Loads_agg (Rd.own (mAp (M := [_]) (mAp m0))) (ty rfl) (by rfl), ⟨_, _, rfl, rfl, rfl⟩, rfl⟩ fun h' hl' hm' => ?_
        have hz := hO'.sl hl' (NodeC_mono _) hm' (B := 4398046511104) (by simp; omega)
        refine ⟨_, rfl, p5_5, q5_5, by rw [List.length_set]; rfl, ?_⟩
        rw [List.length_set]; exact hz
    have hr := refPut_ne ex hc he ht
    (focus (refine WP_seq ?_; refine WP_seq ?_; refine R_draw (n := 17) mixed rfl ?_; refine Va 0 ?_; refine Vm 1 ?_; refine Va 1 ?_; refine Vf 3 ?_; refine Va 2 ?_; refine Vl 7 ?_; refine L_fld (Rd.pers ‹_›) (ty rfl) rfl ?_; refine Va 3 ?_; refine A_q (m' := 15) rfl rfl rfl (Q_len rfl rfl rfl rfl rfl rfl) rfl (by decide +kernel) ?_; refine Va 4 ?_; refine A_q (m' := 31) rfl rfl rfl (Q_cmp rfl rfl rfl rfl) rfl (by decide +kernel) ?_; refine Va 5 ?_; refine Vm 63 ?_; refine Va 6 ?_; refine Vgs ?_ ?_ <;> intro c8_1 <;> (first | simp [*] at c8_1; done | try simp at c8_1); refine Va 6 ?_; refine A_gq (m' := 127) rfl rfl rfl rfl rfl rfl (Q_fieldAddr rfl rfl (fld rfl rfl)) rfl (by decide +kernel) ?_; refine Va 7 ?_; refine Vgl 255 ?_; refine L_fld (Rd.pers ‹_›) (ty rfl) rfl ?_; refine Va 8 ?_; refine Vgm 511 ?_; refine Va 9 ?_; refine A_gq (m' := 1023) rfl rfl rfl rfl rfl rfl (Q_indexS ‹_› ‹_› rfl rfl rfl (elm rfl) rfl) rfl (by decide +kernel) ?_; refine Va 10 ?_; refine A_gq (m' := 2047) rfl rfl rfl rfl rfl rfl (Q_fieldAddr rfl rfl (fld rfl rfl)) rfl (by decide +kernel) ?_; refine Va 11 ?_; refine Vgl 4095 ?_; refine L_elF ‹_› ‹_› ?_; rintro _ _ _ ⟨pn8_2, qn8_2, rfl, fn8_2⟩; refine LV_a (ty rfl) rfl ?_; refine Va 12 ?_; refine A_gq (m' := 8191) rfl rfl rfl rfl rfl rfl (Q_fieldAddr rfl rfl (fld rfl rfl)) rfl (by decide +kernel) ?_; refine Va 13 ?_; refine Vgl 16383 ?_; refine L_sub (Rd.pers ‹_›) (ty rfl) rfl ?_; refine Va 14 ?_; refine A_gc (m' := 32767) rfl rfl rfl rfl rfl rfl rfl (by decide +kernel) (C_callv (refCmp16_s _ (_, _) (_, _)) rfl rfl ⟨_, _, rfl, ⟨_, _, rfl, rfl, rfl⟩, rfl⟩ (cal rfl) ?_); refine Va 15 ?_; refine A_gq (m' := 65535) rfl rfl rfl rfl rfl rfl (Q_cmp rfl rfl rfl rfl) rfl (by decide +kernel) ?_; refine Va 16 ?_; refine A_q (m' := 131071) rfl rfl rfl (Q_pick_t rfl rfl rfl) rfl (by decide +kernel) ?_; refine A_done (by decide +kernel) ?_; refine then_n ?_; refine Wc ?_ ?_ <;> intro c8_3 <;> (first | simp [*] at c8_3; done | try simp at c8_3); refine WP_exit ?_; refine then_e ?_; refine roundF_e ?_; refine block_e ?_; refine then_n ?_; refine Wr ?_; refine S_c rfl rfl rfl (C_buildSlice rfl (elm rfl) (zer rfl) rfl rfl rfl rfl ?_); intro b8_4; refine Tf ?_; refine Tl ?_; refine L_fld (Rd.pers ‹_›) (ty rfl) rfl ?_; refine S_w rfl rfl rfl (W_appS [] _ (OS.lit0 _ _ _ _ _) ‹_› rfl rfl rfl rfl rfl rfl (elm rfl) (zer rfl) rfl rfl (by (try simp only [lA]); omega) (by (try simp only [lA]); omega) ?_); rintro p8_5 q8_5 m8_5 o8_5; refine Tm ?_; refine On ?_; refine WP_seq ?_; refine WP_seq ?_; refine R_draw (n := 14) mixed rfl ?_; refine Va 0 ?_; refine Vm 1 ?_; refine Va 1 ?_; refine Vm 3 ?_; refine Va 2 ?_; refine A_q (m' := 7) rfl rfl rfl (Q_len rfl rfl rfl rfl rfl rfl) rfl (by decide +kernel) ?_; refine Va 3 ?_; refine A_q (m' := 15) rfl rfl rfl (Q_cmp rfl rfl rfl rfl) rfl (by decide +kernel) ?_; refine Va 4 ?_; refine Vm 31 ?_; refine Va 5 ?_; refine Vgs ?_ ?_ <;> intro c8_6 <;> (first | simp [*] at c8_6; done | try simp at c8_6); refine Va 5 ?_; refine Vgm 63 ?_; refine Va 6 ?_; refine Vgm 127 ?_; refine Va 7 ?_; refine A_gq (m' := 255) rfl rfl rfl rfl rfl rfl (Q_indexO ‹_› ‹_› rfl rfl rfl (elm rfl) rfl) rfl (by decide +kernel) ?_; refine Va 8 ?_; refine A_gq (m' := 511) rfl rfl rfl rfl rfl rfl (Q_fieldAddr rfl rfl (fld rfl rfl)) rfl (by decide +kernel) ?_; refine Va 9 ?_; refine Vgl 1023 ?_; refine L_oelF [] _ ‹_› ‹_› rfl ?_; rintro _ _ _ ⟨pn8_7, qn8_7, rfl, fn8_7⟩; refine LV_a (ty rfl) rfl ?_; refine Va 10 ?_; refine A_gq (m' := 2047) rfl rfl rfl rfl rfl rfl (Q_fieldAddr rfl rfl (fld rfl rfl)) rfl (by decide +kernel) ?_; refine Va 11 ?_; refine Vgl 4095 ?_; refine L_sub (Rd.pers ‹_›) (ty rfl) rfl ?_; refine Va 12 ?_; refine A_gq (m' := 8191) rfl rfl rfl rfl rfl rfl (Q_eqI eqID rfl rfl rfl rfl rfl) rfl (by decide +kernel) ?_; refine Va 13 ?_; refine A_q (m' := 16383) rfl rfl rfl (Q_pick_t rfl rfl rfl) rfl (by decide +kernel) ?_; refine A_done (by decide +kernel) ?_; refine then_n ?_; refine Wc ?_ ?_ <;> intro c8_8 <;> (first | simp [*] at c8_8; done | try simp at c8_8); refine WP_skip ?_; refine then_n ?_; refine WP_seq ?_; refine R_draw (n := 15) mixed rfl ?_; refine Va 1 ?_; refine Vm 2 ?_; refine Va 2 ?_; refine Vm 6 ?_; refine Va 5 ?_; refine A_loadp (m' := 38) rfl rfl rfl rfl rfl rfl (by decide +kernel) ?_; refine Lp ?_; refine Va 8 ?_; refine A_qp (m' := 294) rfl rfl rfl (Q_move rfl rfl) rfl (by decide +kernel) ?_; refine Va 9 ?_; refine A_qp (m' := 806) rfl rfl rfl (Q_move rfl rfl) rfl (by decide +kernel) ?_))
    have hcap := o8_5.cap.2
    refine ANY_keepM' (by decide +kernel) [] m8_5 _ rfl fun h2 hl2 hm2 => ?_
    have hN : SL h2 5 (NodeC 4398046511104) (.slice p8_5 g.length q8_5) g := o8_5.sl hl2 (NodeC_mono _) hm2 (by simp; omega)
    have hT := hN.toV hcap (u := k) (by omega)
    have hF := hN.fromV hcap (u := k) (by omega)
    have hlen : ([] ++ g : List Nd).length = g.length := rfl
    have hTl : (List.take k g).length = k := by rw [List.length_take]; omega
    have hFl : (List.drop k g).length ≤ g.length := by rw [List.length_drop]; omega
    clear hN
    (replace a2_k := a2_k.up hl2; replace a1_k := a1_k.up hl2; replace hf := hf.up hl2; replace hf' := hf'.up hl2; replace fn8_2 := fn8_2.up hl2; replace o8_5 := o8_5.up hl2; replace fn8_7 := fn8_7.up hl2)
    (focus (refine Va 3 ?_; refine A_q (m' := 814) rfl rfl rfl (Q_slTo rfl rfl (elm rfl) rfl (by omega)) rfl (by decide +kernel) ?_; refine Va 10 ?_; refine A_qp (m' := 1838) rfl rfl rfl (Q_slFrom rfl rfl (elm rfl) rfl (by omega)) rfl (by decide +kernel) ?_; refine A_two 0 6 (mi := 1839) (mj := 1902) rfl rfl (by decide +kernel) rfl rfl ?_ ?_; (focus (refine T_at rfl ?_; refine T_cO rfl rfl rfl (C_buildSlice rfl (elm rfl) (zer rfl) rfl rfl rfl rfl ?_); intro b10_1; refine A_two 4 6 (mi := 1855) (mj := 1903) rfl rfl (by decide +kernel) rfl rfl ?_ ?_; (focus (refine T_at rfl ?_; refine T_wO rfl rfl rfl rfl (W_appS [] _ (OS.lit0 _ _ _ _ _) ‹_› rfl rfl rfl rfl rfl rfl (elm rfl) (zer rfl) rfl rfl (by (try simp only [lA]); omega) (by (try simp only [lA]); omega) ?_); rintro p10_2 q10_2 m10_2 o10_2; refine Va 6 ?_; refine A_c (m' := 1919) rfl rfl rfl rfl (by decide +kernel) (C_buildSlice rfl (elm rfl) (zer rfl) rfl ⟨_, _, _, rfl, rfl, rfl, rfl, rfl, rfl⟩ rfl rfl ?_); intro b10_3; refine Va 7 ?_; refine A_w (m' := 2047) rfl rfl rfl rfl rfl (by decide +kernel) (W_app1 (C := NodeC _) (y := (⟨(_, _), _, _, _⟩ : Nd)) [] _ o10_2 rfl rfl rfl rfl rfl rfl (elm rfl) (zer rfl) rfl rfl rfl rfl ⟨_, _, rfl, by assumption⟩ (by (try simp only [lA]); omega) (by (try simp only [lA]); omega) ?_); rintro p10_4 q10_4 m10_4 o10_4; refine Va 11 ?_; refine A_w (m' := 4095) rfl rfl rfl rfl rfl (by decide +kernel) (W_appS [] _ o10_4 ‹_› rfl rfl rfl rfl rfl rfl (elm rfl) (zer rfl) rfl rfl (by (try simp only [lA]); omega) (by (try simp only [lA]); omega) ?_); rintro p10_5 q10_5 m10_5 o10_5; refine Va 12 ?_; refine A_q (m' := 8191) rfl rfl rfl (Q_build rfl (by decide +kernel) (zer rfl) ⟨_, _, _, _, _, _, _, rfl, fld rfl rfl, ty rfl, rfl, rfl, rfl, rfl⟩ rfl) rfl (by decide +kernel) ?_; refine Va 13 ?_; refine A_w0 (m' := 16383) rfl rfl rfl rfl (by decide +kernel) (W_all rfl rfl rfl (ty rfl) (Upd.skip _ (Upd.skip _ u0)) (by first | rfl | assumption) (by first | rfl | assumption) (by first | rfl | assumption | exact ones_sub ‹_› _ _) ?_); refine Va 14 ?_; refine Vs 32767 ?_; refine A_done (by decide +kernel) ?_; refine then_n ?_; refine WP_ret ?_)); rotate_left 1; (focus (refine T_at rfl ?_; refine T_cO rfl rfl rfl (C_buildSlice rfl (elm rfl) (zer rfl) rfl ⟨_, _, _, rfl, rfl, rfl, rfl, rfl, rfl⟩ rfl rfl ?_); intro b10_6; refine Va 4 ?_; refine A_w (m' := 1919) rfl rfl rfl rfl rfl (by decide +kernel) (W_appS [_] _ (OS.lit0 _ _ _ _ _) ‹_› rfl rfl rfl rfl rfl rfl (elm rfl) (zer rfl) rfl rfl (by (try simp only [lA]); omega) (by (try simp only [lA]); omega) ?_); rintro p10_7 q10_7 m10_7 o10_7; refine Va 7 ?_; refine A_w (m' := 2047) rfl rfl rfl rfl rfl (by decide +kernel) (W_app1 (C := NodeC _) (y := (⟨(_, _), _, _, _⟩ : Nd)) [] _ o10_7 rfl rfl rfl rfl rfl rfl (elm rfl) (zer rfl) rfl rfl rfl rfl ⟨_, _, rfl, by assumption⟩ (by (try simp only [lA]); omega) (by (try simp only [lA]); omega) ?_); rintro p10_8 q10_8 m10_8 o10_8; refine Va 11 ?_; refine A_w (m' := 4095) rfl rfl rfl rfl rfl (by decide +kernel) (W_appS [] _ o10_8 ‹_› rfl rfl rfl rfl rfl rfl (elm rfl) (zer rfl) rfl rfl (by (try simp only [lA]); omega) (by (try simp only [lA]); omega) ?_); rintro p10_9 q10_9 m10_9 o10_9; refine Va 12 ?_; refine A_q (m' := 8191) rfl rfl rfl (Q_build rfl (by decide +kernel) (zer rfl) ⟨_, _, _, _, _, _, _, rfl, fld rfl rfl, ty rfl, rfl, rfl, rfl, rfl⟩ rfl) rfl (by decide +kernel) ?_; refine Va 13 ?_; refine A_w0 (m' := 16383) rfl rfl rfl rfl (by decide +kernel) (W_all rfl rfl rfl (ty rfl) (Upd.skip _ (Upd.skip _ u0)) (by first | rfl | assumption) (by first | rfl | assumption) (by first | rfl | assumption | exact ones_sub ‹_› _ _) ?_); refine Va 14 ?_; refine Vs 32767 ?_; refine A_done (by decide +kernel) ?_; refine then_n ?_; refine WP_ret ?_)); rotate_left 1)); rotate_left 2; (focus (refine T_at rfl ?_; refine T_cO rfl rfl rfl (C_buildSlice rfl (elm rfl) (zer rfl) rfl ⟨_, _, _, rfl, rfl, rfl, rfl, rfl, rfl⟩ rfl rfl ?_); intro b10_10; refine Va 0 ?_; refine A_c (m' := 1903) rfl rfl rfl rfl (by decide +kernel) (C_buildSlice rfl (elm rfl) (zer rfl) rfl rfl rfl rfl ?_); intro b10_11; refine Va 4 ?_; refine A_w (m' := 1919) rfl rfl rfl rfl rfl (by decide +kernel) (W_appS [] _ (OS.lit0 _ _ _ _ _) ‹_› rfl rfl rfl rfl rfl rfl (elm rfl) (zer rfl) rfl rfl (by (try simp only [lA]); omega) (by (try simp only [lA]); omega) ?_); rintro p10_12 q10_12 m10_12 o10_12; refine Va 7 ?_; refine A_w (m' := 2047) rfl rfl rfl rfl rfl (by decide +kernel) (W_app1b (C := NodeC _) (y := (⟨(_, _), _, _, _⟩ : Nd)) [] _ o10_12 rfl rfl rfl rfl rfl rfl (elm rfl) (zer rfl) rfl rfl rfl rfl ⟨_, _, rfl, by assumption⟩ (by (try simp only [lA]); omega) (by (try simp only [lA]); omega) ?_); rintro p10_13 q10_13 m10_13 o10_13; refine Va 11 ?_; refine A_w (m' := 4095) rfl rfl rfl rfl rfl (by decide +kernel) (W_appS [] _ o10_13 ‹_› rfl rfl rfl rfl rfl rfl (elm rfl) (zer rfl) rfl rfl (by (try simp only [lA]); omega) (by (try simp only [lA]); omega) ?_); rintro p10_14 q10_14 m10_14 o10_14; refine Va 12 ?_; refine A_q (m' := 8191) rfl rfl rfl (Q_build rfl (by decide +kernel) (zer rfl) ⟨_, _, _, _, _, _, _, rfl, fld rfl rfl, ty rfl, rfl, rfl, rfl, rfl⟩ rfl) rfl (by decide +kernel) ?_; refine Va 13 ?_; refine A_w0 (m' := 16383) rfl rfl rfl rfl (by decide +kernel) (W_all rfl rfl rfl (ty rfl) (Upd.skip _ (Upd.skip _ u0)) (by first | rfl | assumption) (by first | rfl | assumption) (by first | rfl | assumption | exact ones_sub ‹_› _ _) ?_); refine Va 14 ?_; refine Vs 32767 ?_; refine A_done (by decide +kernel) ?_; refine then_n ?_; refine WP_ret ?_)); rotate_left 1))
    all_goals rw [hr]
    all_goals refine pretKM [] _ _ rfl (.inl rfl) rfl ⟨_, _, _, rfl, Loads_agg (Rd.own (mAp (mAp m0))) (ty rfl) (by rfl), ⟨_, _, rfl, rfl, rfl⟩, rfl⟩ fun h' hl' hm' => ?_
    all_goals exact ⟨_, rfl, _, _, rfl, OS.sl ‹_› hl' (NodeC_mono _) hm' (by simp only [List.nil_append, List.length_append, List.length_cons, List.length_nil]; omega)⟩
  · have hge : k = g.length := by omega
    subst hge
    have hr := refPut_end ht
    (focus (refine WP_seq ?_; refine WP_seq ?_; refine R_draw (n := 17) mixed rfl ?_; refine Va 0 ?_; refine Vm 1 ?_; refine Va 1 ?_; refine Vf 3 ?_; refine Va 2 ?_; refine Vl 7 ?_; refine L_fld (Rd.pers ‹_›) (ty rfl) rfl ?_; refine Va 3 ?_; refine A_q (m' := 15) rfl rfl rfl (Q_len rfl rfl rfl rfl rfl rfl) rfl (by decide +kernel) ?_; refine Va 4 ?_; refine A_q (m' := 31) rfl rfl rfl (Q_cmp rfl rfl rfl rfl) rfl (by decide +kernel) ?_; refine Va 5 ?_; refine Vm 63 ?_; refine Va 6 ?_; refine Vgs ?_ ?_ <;> intro c11_1 <;> (first | simp [*] at c11_1; done | try simp at c11_1); refine Va 6 ?_; refine Vn 127 ?_; refine Va 7 ?_; refine Vn 255 ?_; refine Va 8 ?_; refine Vn 511 ?_; refine Va 9 ?_; refine Vn 1023 ?_; refine Va 10 ?_; refine Vn 2047 ?_; refine Va 11 ?_; refine Vn 4095 ?_; refine Va 12 ?_; refine Vn 8191 ?_; refine Va 13 ?_; refine Vn 16383 ?_; refine Va 14 ?_; refine Vn 32767 ?_; refine Va 15 ?_; refine Vn 65535 ?_; refine Va 16 ?_; refine A_q (m' := 131071) rfl rfl rfl (Q_pick_f rfl rfl rfl) rfl (by decide +kernel) ?_; refine A_done (by decide +kernel) ?_; refine then_n ?_; refine cond_f rfl ?_; refine WP_exit ?_; refine then_e ?_; refine roundF_e ?_; refine block_e ?_; refine then_n ?_; refine Wr ?_; refine S_c rfl rfl rfl (C_buildSlice rfl (elm rfl) (zer rfl) rfl rfl rfl rfl ?_); intro b11_2; refine Tf ?_; refine Tl ?_; refine L_fld (Rd.pers ‹_›) (ty rfl) rfl ?_; refine S_w rfl rfl rfl (W_appS [] _ (OS.lit0 _ _ _ _ _) ‹_› rfl rfl rfl rfl rfl rfl (elm rfl) (zer rfl) rfl rfl (by (try simp only [lA]); omega) (by (try simp only [lA]); omega) ?_); rintro p11_3 q11_3 m11_3 o11_3; refine Tm ?_; refine On ?_; refine WP_seq ?_; refine WP_seq ?_; refine R_draw (n := 14) mixed rfl ?_; refine Va 0 ?_; refine Vm 1 ?_; refine Va 1 ?_; refine Vm 3 ?_; refine Va 2 ?_; refine A_q (m' := 7) rfl rfl rfl (Q_len rfl rfl rfl rfl rfl rfl) rfl (by decide +kernel) ?_; refine Va 3 ?_; refine A_q (m' := 15) rfl rfl rfl (Q_cmp rfl rfl rfl rfl) rfl (by decide +kernel) ?_; refine Va 4 ?_; refine Vm 31 ?_; refine Va 5 ?_; refine Vgs ?_ ?_ <;> intro c11_4 <;> (first | simp [*] at c11_4; done | try simp at c11_4); refine Va 5 ?_; refine Vn 63 ?_; refine Va 6 ?_; refine Vn 127 ?_; refine Va 7 ?_; refine Vn 255 ?_; refine Va 8 ?_; refine Vn 511 ?_; refine Va 9 ?_; refine Vn 1023 ?_; refine Va 10 ?_; refine Vn 2047 ?_; refine Va 11 ?_; refine Vn 4095 ?_; refine Va 12 ?_; refine Vn 8191 ?_; refine Va 13 ?_; refine A_q (m' := 16383) rfl rfl rfl (Q_pick_f rfl rfl rfl) rfl (by decide +kernel) ?_; refine A_done (by decide +kernel) ?_; refine then_n ?_; refine cond_f rfl ?_; refine WP_skip ?_; refine then_n ?_; refine WP_seq ?_; refine R_draw (n := 15) mixed rfl ?_; refine Va 1 ?_; refine Vm 2 ?_; refine Va 2 ?_; refine Vm 6 ?_; refine Va 5 ?_; refine A_loadp (m' := 38) rfl rfl rfl rfl rfl rfl (by decide +kernel) ?_; refine Lp ?_; refine Va 8 ?_; refine A_qp (m' := 294) rfl rfl rfl (Q_move rfl rfl) rfl (by decide +kernel) ?_; refine Va 9 ?_; refine A_qp (m' := 806) rfl rfl rfl (Q_move rfl rfl) rfl (by decide +kernel) ?_))
    have hcap := o11_3.cap.2
    refine ANY_keepM' (by decide +kernel) [] m11_3 _ rfl fun h2 hl2 hm2 => ?_
    have hN : SL h2 5 (NodeC 4398046511104) (.slice p11_3 g.length q11_3) g := o11_3.sl hl2 (NodeC_mono _) hm2 (by simp; omega)
    have hT := hN.toV hcap (u := g.length) (by simp)
    have hF := hN.fromV hcap (u := g.length) (by simp)
    have hlen : ([] ++ g : List Nd).length = g.length := rfl
    have hTl : (List.take g.length g).length = g.length := by rw [List.length_take]; omega
    have hFl : (List.drop g.length g).length ≤ g.length := by rw [List.length_drop]; omega
    clear hN
    (replace a2_k := a2_k.up hl2; replace a1_k := a1_k.up hl2; replace hf := hf.up hl2; replace hf' := hf'.up hl2; replace o11_3 := o11_3.up hl2)
    (focus (refine Va 3 ?_; refine A_q (m' := 814) rfl rfl rfl (Q_slTo rfl rfl (elm rfl) rfl (by omega)) rfl (by decide +kernel) ?_; refine Va 10 ?_; refine A_qp (m' := 1838) rfl rfl rfl (Q_slFrom rfl rfl (elm rfl) rfl (by omega)) rfl (by decide +kernel) ?_; refine A_two 0 6 (mi := 1839) (mj := 1902) rfl rfl (by decide +kernel) rfl rfl ?_ ?_; (focus (refine T_at rfl ?_; refine T_cO rfl rfl rfl (C_buildSlice rfl (elm rfl) (zer rfl) rfl rfl rfl rfl ?_); intro b13_1; refine A_two 4 6 (mi := 1855) (mj := 1903) rfl rfl (by decide +kernel) rfl rfl ?_ ?_; (focus (refine T_at rfl ?_; refine T_wO rfl rfl rfl rfl (W_appS [] _ (OS.lit0 _ _ _ _ _) ‹_› rfl rfl rfl rfl rfl rfl (elm rfl) (zer rfl) rfl rfl (by (try simp only [lA]); omega) (by (try simp only [lA]); omega) ?_); rintro p13_2 q13_2 m13_2 o13_2; refine Va 6 ?_; refine A_c (m' := 1919) rfl rfl rfl rfl (by decide +kernel) (C_buildSlice rfl (elm rfl) (zer rfl) rfl ⟨_, _, _, rfl, rfl, rfl, rfl, rfl, rfl⟩ rfl rfl ?_); intro b13_3; refine Va 7 ?_; refine A_w (m' := 2047) rfl rfl rfl rfl rfl (by decide +kernel) (W_app1 (C := NodeC _) (y := (⟨(_, _), _, _, _⟩ : Nd)) [] _ o13_2 rfl rfl rfl rfl rfl rfl (elm rfl) (zer rfl) rfl rfl rfl rfl ⟨_, _, rfl, by assumption⟩ (by (try simp only [lA]); omega) (by (try simp only [lA]); omega) ?_); rintro p13_4 q13_4 m13_4 o13_4; refine Va 11 ?_; refine A_w (m' := 4095) rfl rfl rfl rfl rfl (by decide +kernel) (W_appS [] _ o13_4 ‹_› rfl rfl rfl rfl rfl rfl (elm rfl) (zer rfl) rfl rfl (by (try simp only [lA]); omega) (by (try simp only [lA]); omega) ?_); rintro p13_5 q13_5 m13_5 o13_5; refine Va 12 ?_; refine A_q (m' := 8191) rfl rfl rfl (Q_build rfl (by decide +kernel) (zer rfl) ⟨_, _, _, _, _, _, _, rfl, fld rfl rfl, ty rfl, rfl, rfl, rfl, rfl⟩ rfl) rfl (by decide +kernel) ?_; refine Va 13 ?_; refine A_w0 (m' := 16383) rfl rfl rfl rfl (by decide +kernel) (W_all rfl rfl rfl (ty rfl) (Upd.skip _ (Upd.skip _ u0)) (by first | rfl | assumption) (by first | rfl | assumption) (by first | rfl | assumption | exact ones_sub ‹_› _ _) ?_); refine Va 14 ?_; refine Vs 32767 ?_; refine A_done (by decide +kernel) ?_; refine then_n ?_; refine WP_ret ?_)); rotate_left 1; (focus (refine T_at rfl ?_; refine T_cO rfl rfl rfl (C_buildSlice rfl (elm rfl) (zer rfl) rfl ⟨_, _, _, rfl, rfl, rfl, rfl, rfl, rfl⟩ rfl rfl ?_); intro b13_6; refine Va 4 ?_; refine A_w (m' := 1919) rfl rfl rfl rfl rfl (by decide +kernel) (W_appS [_] _ (OS.lit0 _ _ _ _ _) ‹_› rfl rfl rfl rfl rfl rfl (elm rfl) (zer rfl) rfl rfl (by (try simp only [lA]); omega) (by (try simp only [lA]); omega) ?_); rintro p13_7 q13_7 m13_7 o13_7; refine Va 7 ?_; refine A_w (m' := 2047) rfl rfl rfl rfl rfl (by decide +kernel) (W_app1 (C := NodeC _) (y := (⟨(_, _), _, _, _⟩ : Nd)) [] _ o13_7 rfl rfl rfl rfl rfl rfl (elm rfl) (zer rfl) rfl rfl rfl rfl ⟨_, _, rfl, by assumption⟩ (by (try simp only [lA]); omega) (by (try simp only [lA]); omega) ?_); rintro p13_8 q13_8 m13_8 o13_8; refine Va 11 ?_; refine A_w (m' := 4095) rfl rfl rfl rfl rfl (by decide +kernel) (W_appS [] _ o13_8 ‹_› rfl rfl rfl rfl rfl rfl (elm rfl) (zer rfl) rfl rfl (by (try simp only [lA]); omega) (by (try simp only [lA]); omega) ?_); rintro p13_9 q13_9 m13_9 o13_9; refine Va 12 ?_; refine A_q (m' := 8191) rfl rfl rfl (Q_build rfl (by decide +kernel) (zer rfl) ⟨_, _, _, _, _, _, _, rfl, fld rfl rfl, ty rfl, rfl, rfl, rfl, rfl⟩ rfl) rfl (by decide +kernel) ?_; refine Va 13 ?_; refine A_w0 (m' := 16383) rfl rfl rfl rfl (by decide +kernel) (W_all rfl rfl rfl (ty rfl) (Upd.skip _ (Upd.skip _ u0)) (by first | rfl | assumption) (by first | rfl | assumption) (by first | rfl | assumption | exact ones_sub ‹_› _ _) ?_); refine Va 14 ?_; refine Vs 32767 ?_; refine A_done (by decide +kernel) ?_; refine then_n ?_; refine WP_ret ?_)); rotate_left 1)); rotate_left 2; (focus (refine T_at rfl ?_; refine T_cO rfl rfl rfl (C_buildSlice rfl (elm rfl) (zer rfl) rfl ⟨_, _, _, rfl, rfl, rfl, rfl, rfl, rfl⟩ rfl rfl ?_); intro b13_10; refine Va 0 ?_; refine A_c (m' := 1903) rfl rfl rfl rfl (by decide +kernel) (C_buildSlice rfl (elm rfl) (zer rfl) rfl rfl rfl rfl ?_); intro b13_11; refine Va 4 ?_; refine A_w (m' := 1919) rfl rfl rfl rfl rfl (by decide +kernel) (W_appS [] _ (OS.lit0 _ _ _ _ _) ‹_› rfl rfl rfl rfl rfl rfl (elm rfl) (zer rfl) rfl rfl (by (try simp only [lA]); omega) (by (try simp only [lA]); omega) ?_); rintro p13_12 q13_12 m13_12 o13_12; refine Va 7 ?_; refine A_w (m' := 2047) rfl rfl rfl rfl rfl (by decide +kernel) (W_app1b (C := NodeC _) (y := (⟨(_, _), _, _, _⟩ : Nd)) [] _ o13_12 rfl rfl rfl rfl rfl rfl (elm rfl) (zer rfl) rfl rfl rfl rfl ⟨_, _, rfl, by assumption⟩ (by (try simp only [lA]); omega) (by (try simp only [lA]); omega) ?_); rintro p13_13 q13_13 m13_13 o13_13; refine Va 11 ?_; refine A_w (m' := 4095) rfl rfl rfl rfl rfl (by decide +kernel) (W_appS [] _ o13_13 ‹_› rfl rfl rfl rfl rfl rfl (elm rfl) (zer rfl) rfl rfl (by (try simp only [lA]); omega) (by (try simp only [lA]); omega) ?_); rintro p13_14 q13_14 m13_14 o13_14; refine Va 12 ?_; refine A_q (m' := 8191) rfl rfl rfl (Q_build rfl (by decide +kernel) (zer rfl) ⟨_, _, _, _, _, _, _, rfl, fld rfl rfl, ty rfl, rfl, rfl, rfl, rfl⟩ rfl) rfl (by decide +kernel) ?_; refine Va 13 ?_; refine A_w0 (m' := 16383) rfl rfl rfl rfl (by decide +kernel) (W_all rfl rfl rfl (ty rfl) (Upd.skip _ (Upd.skip _ u0)) (by first | rfl | assumption) (by first | rfl | assumption) (by first | rfl | assumption | exact ones_sub ‹_› _ _) ?_); refine Va 14 ?_; refine Vs 32767 ?_; refine A_done (by decide +kernel) ?_; refine then_n ?_; refine WP_ret ?_)); rotate_left 1))
    all_goals rw [hr]
    all_goals refine pretKM [] _ _ rfl (.inl rfl) rfl ⟨_, _, _, rfl, Loads_agg (Rd.own (mAp (mAp m0))) (ty rfl) (by rfl), ⟨_, _, rfl, rfl, rfl⟩, rfl⟩ fun h' hl' hm' => ?_
    all_goals exact ⟨_, rfl, _, _, rfl, OS.sl ‹_› hl' (NodeC_mono _) hm' (by simp only [List.nil_append, List.length_append, List.length_cons, List.length_nil]; omega)⟩
end Go.Proofs.YtfhoecgiahpddaaGreat
/-
  CONTRACTS: the reference's union of graphs (refmeshref16.Union).
-/
set_option linter.all false
namespace Go.Proofs.YtfhoecgiahpddaaGreat
open Go.Mesh Go.RowKit
set_option maxRecDepth 100000
set_option linter.unusedVariables false
set_option maxHeartbeats 4000000
attribute [local irreducible] WP OPS ANY ANYo LG LV FSpec PSpec QOP OPc OPw thenQ blockQ roundQ roundF retQ retM Rd At SLB OS cmpI orI cmpID namedB valB nodeB kindB validG valAux idxI findG zeroV viewOf vwAt idxOf recv flyB scionOf moveOf numberedOf idOf valueOf mget mput localB carriedB msgB sizesB smallV fewB stubOf followF followOf flOf flightsOf flPre setL minusL compactL putI mergeN insN insAll unionR NMap Coll retN bodyS GMap Dfs refsV refsOf reachL movedOf movedG graphParts graphR isMove flightIDs mailIDs viewIDs rawRoots rootsR refFl refMoved refPut
theorem refPut_len (n : Nd) : ∀ g : List Nd, (refPut g n).1.length ≤ g.length + 1
  | [] => by simp [refPut]
  | y :: l => by
    have := refPut_len n l
    unfold refPut
    split
    · simp only [List.length_cons]; omega
    · split <;> simp
theorem refUnion_s {h : Frag} {a : Value} {l : List (List Nd)} (hs : SL h 1 (GraphC 4398046511104) a l) (hb : l.flatten.length ≤ 1000000) : PSpec Tryz.prog 48 #[a] h (fun h' v => ∃ us, v = .tuple #[.agg us.toArray, .int .i64 (unionR l).2] ∧ GraphC 4398046511104 h' (unionR l).1 us) := by
  have hl := hs.le
  refine pspec_of (vs := [a]) Tryz.func48 Tryz.ntmps48 rfl rfl ?_
  (focus (refine Wr ?_; refine Tal ?_; intro b0_1; refine Tm ?_; refine On ?_; refine WP_seq ?_; refine Wr ?_; refine Tm ?_; refine On ?_; refine WP_block ?_))
  (refine WP_loopC (α := Nat) [2, 0] (fun (k : Nat) => l.length - k) (fun (k : Nat) => [(4, .int .i64 k)]) (fun hh (k : Nat) => hh = h ∧ k ≤ l.length ∧ (l.drop k).all validG = l.all validG) 0 ⟨_, _, rfl, ⟨_, _, rfl, rfl, rfl⟩, rfl⟩ (by repeat' first | exact trivial | refine ⟨rfl, ?_⟩) ?_ ?_)
  · exact ⟨rfl, Nat.zero_le _, rfl⟩
  rintro h1 k _ ⟨rfl, hk, ht⟩
  by_cases hlt : k < l.length
  · obtain ⟨g, eg⟩ := get_of hlt
    have had := all_drop (p := validG) eg
    (focus (refine WP_seq ?_; refine Wr ?_; refine Tm ?_; refine Tm ?_; refine S_q rfl rfl rfl (Q_lenS rfl rfl rfl rfl rfl rfl ‹_›) ?_; refine Tc ?_; refine On ?_; refine Wc ?_ ?_ <;> intro c2_1 <;> (first | simp [*] at c2_1; done | try simp at c2_1); refine WP_skip ?_; refine then_n ?_; refine WP_seq ?_; refine WP_block ?_; refine Wr ?_; refine Tm ?_; refine Tm ?_; refine Ti ?_; refine Tl ?_; refine Le ?_; rintro _ _ _ ⟨pg2_2, qg2_2, rfl, fg2_2⟩; refine S_c rfl rfl rfl (C_callv (refValid_s ⟨_, _, rfl, by assumption⟩) rfl rfl ⟨_, _, rfl, rfl, rfl⟩ (cal rfl) ?_); refine S_q rfl rfl rfl (Q_not rfl rfl) ?_; refine On ?_; refine Wc ?_ ?_ <;> intro c2_3 <;> (first | simp [*] at c2_3; done | try simp at c2_3); (focus (refine Wr ?_; refine S_q rfl rfl rfl (Q_build rfl (by decide +kernel) (zer rfl) rfl rfl) ?_; refine Tw u0 ?_; refine Tm ?_; refine On ?_; refine WP_ret ?_; refine block_r ?_; refine then_r ?_; refine roundF_r ?_; refine block_r ?_; refine then_r ?_)); rotate_left 1; (focus (refine WP_skip ?_; refine block_n ?_; refine then_n ?_; refine R_region ?_; refine Tm ?_; refine Ta ?_; refine Tm ?_; refine OPS_nil ?_)); rotate_left 1))
    · have hr : unionR l = ([], 1) := by
        have : l.all validG = false := by rw [← ht, had, c2_3]; rfl
        rw [unionR, this]; rfl
      refine pret (.inl rfl) rfl ⟨_, _, _, rfl, Loads_agg (Rd.own m0) (ty rfl) rfl, ⟨_, _, rfl, rfl, rfl⟩, rfl⟩ ?_
      rw [hr]; exact ⟨_, rfl, _, _, rfl, SLB.nil _ _ _ _ _ _⟩
    · refine roundF_n (k + 1) (by omega) ⟨rfl, by omega, ?_⟩ (by repeat' first | exact sR _ | exact sA _ _ | exact sN _ | apply s2 | apply s1) (by repeat' first | exact trivial | refine ⟨rfl, ?_⟩)
      rw [← ht, had, c2_3]; rfl
  · have hge : k = l.length := by omega
    subst hge
    have hall : l.all validG = true := by rw [← ht]; simp
    have hun : unionR l = resU (insAll [] l.flatten) := by rw [unionR, if_pos hall]
    clear ht hall
    (focus (refine WP_seq ?_; refine Wr ?_; refine Tm ?_; refine Tm ?_; refine S_q rfl rfl rfl (Q_lenS rfl rfl rfl rfl rfl rfl ‹_›) ?_; refine Tc ?_; refine On ?_; refine Wc ?_ ?_ <;> intro c3_1 <;> (first | simp [*] at c3_1; done | try simp at c3_1); refine WP_exit ?_; refine then_e ?_; refine roundF_e ?_; refine block_e ?_; refine then_n ?_; refine Wr ?_; refine S_q rfl rfl rfl (Q_build rfl (by decide +kernel) (zer rfl) rfl rfl) ?_; refine Tal ?_; intro b3_2; refine Tw u0 ?_; refine On ?_; refine WP_seq ?_; refine Wr ?_; refine Tm ?_; refine On ?_; refine WP_block ?_))
    (refine WP_loopF (α := Nat × List Nd × Option Addr × Nat) [5, 2, 0] (fun (s : Nat × List Nd × Option Addr × Nat) => l.length - s.1) (fun (s : Nat × List Nd × Option Addr × Nat) => [(b3_2, cells [.slice s.2.2.1 s.2.1.length s.2.2.2] 27), (b0_1, cells [.slice none 0 0] 27)]) (fun (s : Nat × List Nd × Option Addr × Nat) => [(6, .int .i64 (s.1 : Int))]) (fun hh (s : Nat × List Nd × Option Addr × Nat) => le h1 hh ∧ s.1 ≤ l.length ∧ SL hh 5 (NodeC 4398046511104) (.slice s.2.2.1 s.2.1.length s.2.2.2) s.2.1 ∧ s.2.1.length ≤ (l.take s.1).flatten.length ∧ insAll s.2.1 (l.drop s.1).flatten = insAll [] l.flatten) (0, [], none, 0) ⟨_, _, rfl, ⟨_, _, rfl, ⟨_, _, rfl, rfl, rfl⟩, rfl⟩, rfl⟩ ?_ (by repeat' first | exact sR _ | exact sA _ _ | exact sN _ | apply s2 | apply s1) (by repeat' first | exact trivial | refine ⟨rfl, ?_⟩) ?_)
    · exact ⟨le_refl _, Nat.zero_le _, SLB.nil _ _ _ _ _ _, Nat.zero_le _, rfl⟩
    rintro h2 ⟨k, out, p, c⟩ _ ⟨hl2, hk, hO, hol, hins⟩
    simp only at hk hO hol hins
    dsimp only
    (replace hs := hs.up hl2)
    by_cases hlt : k < l.length
    · obtain ⟨g, eg⟩ := get_of hlt
      have hdg : (l.drop k).flatten = g ++ (l.drop (k + 1)).flatten := by rw [drop_get eg]; simp
      rw [hdg] at hins
      have hkl : (l.take k).flatten.length + g.length ≤ 1000000 := by
        have h1 : l.flatten.length = (l.take k).flatten.length + (l.drop k).flatten.length := by
          rw [← List.length_append, ← List.flatten_append, List.take_append_drop]
        rw [hdg, List.length_append] at h1
        omega
      (focus (refine WP_seq ?_; refine Wr ?_; refine Tm ?_; refine Tm ?_; refine S_q rfl rfl rfl (Q_lenS rfl rfl rfl rfl rfl rfl ‹_›) ?_; refine Tc ?_; refine On ?_; refine Wc ?_ ?_ <;> intro c6_1 <;> (first | simp [*] at c6_1; done | try simp at c6_1); refine WP_skip ?_; refine then_n ?_; refine WP_seq ?_; refine WP_block ?_; refine Wr ?_; refine Tm ?_; refine On ?_; refine WP_block ?_))
      (refine WP_loopF (α := Nat × List Nd × Option Addr × Nat) [6, 5, 2, 0] (fun (s : Nat × List Nd × Option Addr × Nat) => g.length - s.1) (fun (s : Nat × List Nd × Option Addr × Nat) => [(b3_2, cells [.slice s.2.2.1 s.2.1.length s.2.2.2] 27), (b0_1, cells [.slice none 0 0] 27)]) (fun (s : Nat × List Nd × Option Addr × Nat) => [(7, .int .i64 (s.1 : Int))]) (fun hh (s : Nat × List Nd × Option Addr × Nat) => le h2 hh ∧ s.1 ≤ g.length ∧ SL hh 5 (NodeC 4398046511104) (.slice s.2.2.1 s.2.1.length s.2.2.2) s.2.1 ∧ s.2.1.length ≤ (l.take k).flatten.length + s.1 ∧ insAll s.2.1 (g.drop s.1 ++ (l.drop (k + 1)).flatten) = insAll [] l.flatten) (0, out, p, c) ⟨_, _, rfl, ⟨_, _, rfl, ⟨_, _, rfl, ⟨_, _, rfl, rfl, rfl⟩, rfl⟩, rfl⟩, rfl⟩ ?_ (by repeat' first | exact sR _ | exact sA _ _ | exact sN _ | apply s2 | apply s1) (by repeat' first | exact trivial | refine ⟨rfl, ?_⟩) ?_)
      · exact ⟨le_refl _, Nat.zero_le _, hO, hol, hins⟩
      clear hO hol hins out p c
      rintro h3 ⟨j, out, p, c⟩ _ ⟨hl3, hj, hO, hol, hins⟩
      simp only at hj hO hol hins
      dsimp only
      (replace hs := hs.up hl3)
      by_cases hlt2 : j < g.length
      · obtain ⟨⟨⟨i1, i2⟩, kd, cl, fs⟩, ex⟩ := get_of hlt2
        rw [drop_get ex, List.cons_append, insAll, insN_ref] at hins
        have hpl := refPut_len ⟨(i1, i2), kd, cl, fs⟩ out
        (focus (refine WP_seq ?_; refine Wr ?_; refine Tm ?_; refine Tm ?_; refine Tm ?_; refine Ti ?_; refine Tf ?_; refine Tl ?_; refine L_el1 ‹_› ‹_› (ty rfl) ?_; rintro _ ⟨pg9_1, qg9_1, ⟨⟩, fg9_1⟩; refine Tlen ?_; refine Tc ?_; refine On ?_; refine Wc ?_ ?_ <;> intro c9_2 <;> (first | simp [*] at c9_2; done | try simp at c9_2); refine WP_skip ?_; refine then_n ?_; refine WP_seq ?_; refine WP_block ?_; refine WP_seq ?_; refine R_draw (n := 16) mixed rfl ?_; refine Va 0 ?_; refine Vl 1 ?_; refine Lg m0 ?_; refine Va 1 ?_; refine Vm 3 ?_; refine Va 2 ?_; refine Vm 7 ?_; refine Va 3 ?_; refine A_q (m' := 15) rfl rfl rfl (Q_indexS ‹_› ‹_› rfl rfl rfl (elm rfl) rfl) rfl (by decide +kernel) ?_; refine Va 4 ?_; refine Vf 31 ?_; refine Va 5 ?_; refine Vl 63 ?_; refine L_el1 ‹_› ‹_› (ty rfl) ?_; rintro _ ⟨pg9_3, qg9_3, ⟨⟩, fg9_3⟩; refine Va 6 ?_; refine Vm 127 ?_; refine Va 7 ?_; refine A_q (m' := 255) rfl rfl rfl (Q_indexS ‹_› ‹_› rfl rfl rfl (elm rfl) rfl) rfl (by decide +kernel) ?_; refine Va 8 ?_; refine Vl 511 ?_; refine Le ?_; rintro _ _ _ ⟨pn9_4, qn9_4, rfl, fn9_4⟩; refine A_two 9 13 (mi := 1023) (mj := 8703) rfl rfl (by decide +kernel) rfl rfl ?_ ?_; (focus (refine T_at rfl ?_; refine T_cO rfl rfl rfl (C_call (refPut_s (n := ⟨(_, _), _, _, _⟩) ⟨_, _, rfl, by assumption⟩ ⟨_, _, rfl, by assumption⟩ (by omega)) rfl rfl ⟨_, _, rfl, ⟨_, _, rfl, rfl, rfl⟩, rfl⟩ (cal rfl) ?_); rintro h9_5 _ l9_5 ⟨_, rfl, pg9_5, qg9_5, rfl, fg9_5⟩; replace hO := hO.up l9_5; replace hs := hs.up l9_5; replace fg9_1 := fg9_1.up l9_5; replace fg9_3 := fg9_3.up l9_5; replace fn9_4 := fn9_4.up l9_5; refine Va 10 ?_; refine Vm 2047 ?_; refine Va 11 ?_; refine A_q (m' := 4095) rfl rfl rfl (Q_extract rfl rfl rfl) rfl (by decide +kernel) ?_; refine Va 12 ?_; refine A_qp (m' := 8191) rfl rfl rfl (Q_extract rfl rfl rfl) rfl (by decide +kernel) ?_; refine Va 13 ?_; refine A_c (m' := 16383) rfl rfl rfl rfl (by decide +kernel) (C_alloc rfl (zer rfl) ?_); intro b9_6; refine Va 14 ?_; refine A_w0 (m' := 32767) rfl rfl rfl rfl (by decide +kernel) (W_all rfl rfl rfl (ty rfl) u0 (by first | rfl | assumption) (by first | rfl | assumption) (by first | rfl | assumption | exact ones_sub ‹_› _ _) ?_); refine Va 15 ?_; refine Vs 65535 ?_; refine A_done (by decide +kernel) ?_; refine then_n ?_; refine WP_seq ?_; refine Wr ?_; refine Tm ?_; refine S_q rfl rfl rfl (Q_not rfl rfl) ?_; refine On ?_; refine Wc ?_ ?_ <;> intro c9_7 <;> (first | simp [*] at c9_7; done | try simp at c9_7); (focus (refine Wr ?_; refine S_q rfl rfl rfl (Q_build rfl (by decide +kernel) (zer rfl) rfl rfl) ?_; refine Tw u2 ?_; refine Tm ?_; refine On ?_; refine WP_ret ?_; refine then_r ?_; refine block_r ?_; refine then_r ?_; refine roundF_r ?_; refine block_r ?_; refine block_r ?_; refine then_r ?_; refine roundF_r ?_; refine block_r ?_; refine then_r ?_)); rotate_left 1; (focus (refine WP_skip ?_; refine then_n ?_; refine R_region ?_; refine Tl ?_; refine Lg m0 ?_; refine Tw u1 ?_; refine OPS_nil ?_; refine block_n ?_; refine then_n ?_; refine R_region ?_; refine Tm ?_; refine Ta ?_; refine Tm ?_; refine OPS_nil ?_)); rotate_left 1)); rotate_left 2; (focus (refine T_at rfl ?_; refine T_cO rfl rfl rfl (C_alloc rfl (zer rfl) ?_); intro b9_8; refine Va 9 ?_; refine A_c (m' := 9215) rfl rfl rfl rfl (by decide +kernel) (C_call (refPut_s (n := ⟨(_, _), _, _, _⟩) ⟨_, _, rfl, by assumption⟩ ⟨_, _, rfl, by assumption⟩ (by omega)) rfl rfl ⟨_, _, rfl, ⟨_, _, rfl, rfl, rfl⟩, rfl⟩ (cal rfl) ?_); rintro h9_9 _ l9_9 ⟨_, rfl, pg9_9, qg9_9, rfl, fg9_9⟩; replace hO := hO.up l9_9; replace hs := hs.up l9_9; replace fg9_1 := fg9_1.up l9_9; replace fg9_3 := fg9_3.up l9_9; replace fn9_4 := fn9_4.up l9_9; refine Va 10 ?_; refine Vm 10239 ?_; refine Va 11 ?_; refine A_q (m' := 12287) rfl rfl rfl (Q_extract rfl rfl rfl) rfl (by decide +kernel) ?_; refine Va 12 ?_; refine A_qp (m' := 16383) rfl rfl rfl (Q_extract rfl rfl rfl) rfl (by decide +kernel) ?_; refine Va 14 ?_; refine A_w0 (m' := 32767) rfl rfl rfl rfl (by decide +kernel) (W_all rfl rfl rfl (ty rfl) u0 (by first | rfl | assumption) (by first | rfl | assumption) (by first | rfl | assumption | exact ones_sub ‹_› _ _) ?_); refine Va 15 ?_; refine Vs 65535 ?_; refine A_done (by decide +kernel) ?_; refine then_n ?_; refine WP_seq ?_; refine Wr ?_; refine Tm ?_; refine S_q rfl rfl rfl (Q_not rfl rfl) ?_; refine On ?_; refine Wc ?_ ?_ <;> intro c9_10 <;> (first | simp [*] at c9_10; done | try simp at c9_10); (focus (refine Wr ?_; refine S_q rfl rfl rfl (Q_build rfl (by decide +kernel) (zer rfl) rfl rfl) ?_; refine Tw u2 ?_; refine Tm ?_; refine On ?_; refine WP_ret ?_; refine then_r ?_; refine block_r ?_; refine then_r ?_; refine roundF_r ?_; refine block_r ?_; refine block_r ?_; refine then_r ?_; refine roundF_r ?_; refine block_r ?_; refine then_r ?_)); rotate_left 1; (focus (refine WP_skip ?_; refine then_n ?_; refine R_region ?_; refine Tl ?_; refine Lg m0 ?_; refine Tw u1 ?_; refine OPS_nil ?_; refine block_n ?_; refine then_n ?_; refine R_region ?_; refine Tm ?_; refine Ta ?_; refine Tm ?_; refine OPS_nil ?_)); rotate_left 1)); rotate_left 2))
        · rw [c9_7] at hins
          simp only [Bool.false_eq_true, if_false] at hins
          refine pret (.inl rfl) rfl ⟨_, _, _, rfl, Loads_agg (Rd.own m2) (ty rfl) rfl, ⟨_, _, rfl, rfl, rfl⟩, rfl⟩ ?_
          rw [hun, ← hins]; exact ⟨_, rfl, _, _, rfl, SLB.nil _ _ _ _ _ _⟩
        · rw [c9_7] at hins
          simp only [if_true] at hins
          exact roundF_n (j + 1, (refPut out ⟨(i1, i2), kd, cl, fs⟩).1, pg9_5, qg9_5) (by simp only; omega) ⟨le_trans hl3 l9_5, by simp only; omega, fg9_5, by simp only; omega, hins⟩ (by repeat' first | exact sR _ | exact sA _ _ | exact sN _ | apply s2 | apply s1) (by repeat' first | exact trivial | refine ⟨rfl, ?_⟩)
        · rw [c9_10] at hins
          simp only [Bool.false_eq_true, if_false] at hins
          refine pret (.inl rfl) rfl ⟨_, _, _, rfl, Loads_agg (Rd.own m2) (ty rfl) rfl, ⟨_, _, rfl, rfl, rfl⟩, rfl⟩ ?_
          rw [hun, ← hins]; exact ⟨_, rfl, _, _, rfl, SLB.nil _ _ _ _ _ _⟩
        · rw [c9_10] at hins
          simp only [if_true] at hins
          exact roundF_n (j + 1, (refPut out ⟨(i1, i2), kd, cl, fs⟩).1, pg9_9, qg9_9) (by simp only; omega) ⟨le_trans hl3 l9_9, by simp only; omega, fg9_9, by simp only; omega, hins⟩ (by repeat' first | exact sR _ | exact sA _ _ | exact sN _ | apply s2 | apply s1) (by repeat' first | exact trivial | refine ⟨rfl, ?_⟩)
      · have hge : j = g.length := by omega
        subst hge
        (focus (refine WP_seq ?_; refine Wr ?_; refine Tm ?_; refine Tm ?_; refine Tm ?_; refine Ti ?_; refine Tf ?_; refine Tl ?_; refine L_el1 ‹_› ‹_› (ty rfl) ?_; rintro _ ⟨pg10_1, qg10_1, ⟨⟩, fg10_1⟩; refine Tlen ?_; refine Tc ?_; refine On ?_; refine Wc ?_ ?_ <;> intro c10_2 <;> (first | simp [*] at c10_2; done | try simp at c10_2); refine WP_exit ?_; refine then_e ?_; refine roundF_e ?_; refine block_e ?_; refine block_n ?_; refine then_n ?_; refine R_region ?_; refine Tm ?_; refine Ta ?_; refine Tm ?_; refine OPS_nil ?_))
        refine roundF_n (k + 1, out, p, c) (by simp only; omega) ⟨le_trans hl2 hl3, by simp only; omega, hO, ?_, ?_⟩ (by repeat' first | exact sR _ | exact sA _ _ | exact sN _ | apply s2 | apply s1) (by repeat' first | exact trivial | refine ⟨rfl, ?_⟩)
        · simp only; rw [List.take_add_one, eg]; simpa using hol
        · simpa using hins
    · have hge : k = l.length := by omega
      subst hge
      rw [List.drop_length] at hins
      have hins' : insAll [] l.flatten = some out := by rw [← hins, List.flatten_nil, insAll]
      rw [hins', resU] at hun
      clear hins hins'
      (focus (refine WP_seq ?_; refine Wr ?_; refine Tm ?_; refine Tm ?_; refine S_q rfl rfl rfl (Q_lenS rfl rfl rfl rfl rfl rfl ‹_›) ?_; refine Tc ?_; refine On ?_; refine Wc ?_ ?_ <;> intro c11_1 <;> (first | simp [*] at c11_1; done | try simp at c11_1); refine WP_exit ?_; refine then_e ?_; refine roundF_e ?_; refine block_e ?_; refine then_n ?_; refine Wr ?_; refine Tl ?_; refine Lg m0 ?_; refine Tw u1 ?_; refine Tm ?_; refine On ?_; refine WP_ret ?_))
      refine pret (.inl rfl) rfl ⟨_, _, _, rfl, Loads_agg (Rd.own m1) (ty rfl) rfl, ⟨_, _, rfl, rfl, rfl⟩, rfl⟩ ?_
      rw [hun]; exact ⟨_, rfl, _, _, rfl, hO⟩
end Go.Proofs.YtfhoecgiahpddaaGreat
/-
  CONTRACTS: the reference's graph of a fleet (refmeshref55.Graph).
-/
set_option linter.all false
namespace Go.Proofs.YtfhoecgiahpddaaGreat
open Go.Mesh Go.RowKit
set_option maxRecDepth 100000
set_option linter.unusedVariables false
set_option maxHeartbeats 4000000
attribute [local irreducible] WP OPS ANY ANYo LG LV FSpec PSpec QOP OPc OPw thenQ blockQ roundQ roundF retQ retM Rd At SLB OS cmpI orI cmpID namedB valB nodeB kindB validG valAux idxI findG zeroV viewOf vwAt idxOf recv flyB scionOf moveOf numberedOf idOf valueOf mget mput localB carriedB msgB sizesB smallV fewB stubOf followF followOf flOf flightsOf flPre setL minusL compactL putI mergeN insN insAll unionR NMap Coll retN bodyS GMap Dfs refsV refsOf reachL movedOf movedG graphParts graphR isMove flightIDs mailIDs viewIDs rawRoots rootsR refFl refMoved refPut
theorem refMoved_eq (vs : List View) (v : View) (x : Flight) : refMoved vs v.machine x = movedOf vs (v, x) := by rw [refMoved, movedOf]
theorem graphParts_def (vs : List View) : graphParts vs = vs.map (·.objects) ++ movedG vs (vs.flatMap (flOf vs)) := by rw [graphParts, flightsOf]
theorem movedG_nil (vs : List View) : movedG vs [] = [] := by rw [movedG]; rfl
theorem movedG_yes {vs : List View} {k j : Nat} {v : View} {x : Flight} (hx : v.flights[j]? = some x) (hm : x.msg.kind = 1) (hf : flyB vs v x = true) : movedG vs (flPre vs k (j + 1) v) = movedG vs (flPre vs k j v) ++ [[movedOf vs (v, x)]] := by
  rw [flPre_yes hx hf, movedG_snoc, if_pos (by rw [isMove, decide_eq_true hm])]
theorem movedG_no1 {vs : List View} {k j : Nat} {v : View} {x : Flight} (hx : v.flights[j]? = some x) (hm : ¬ x.msg.kind = 1) : movedG vs (flPre vs k (j + 1) v) = movedG vs (flPre vs k j v) := by
  cases hf : flyB vs v x with
  | false => rw [flPre_no hx hf]
  | true => rw [flPre_yes hx hf, movedG_snoc, if_neg (by rw [isMove, decide_eq_false hm]; simp), List.append_nil]
theorem movedG_no2 {vs : List View} {k j : Nat} {v : View} {x : Flight} (hx : v.flights[j]? = some x) (hf : flyB vs v x = false) : movedG vs (flPre vs k (j + 1) v) = movedG vs (flPre vs k j v) := by rw [flPre_no hx hf]
theorem flPre_len (vs : List View) (k j : Nat) (v : View) : (movedG vs (flPre vs k j v)).length ≤ ((vs.take k).flatMap (flOf vs)).length + j := by
  have h1 := movedG_len vs (flPre vs k j v)
  have h2 : (flPre vs k j v).length ≤ ((vs.take k).flatMap (flOf vs)).length + j := by
    rw [flPre, List.length_append, List.length_map]
    have := List.length_filter_le (flyB vs v) (v.flights.take j)
    rw [List.length_take] at this
    omega
  omega
theorem take_fl {vs : List View} (s : Small vs) (k : Nat) : ((vs.take k).flatMap (flOf vs)).length ≤ 30 := by
  have h1 : flightsOf vs = (vs.take k).flatMap (flOf vs) ++ (vs.drop k).flatMap (flOf vs) := by
    rw [flightsOf, ← List.flatMap_append, List.take_append_drop]
  have h2 := s.fl
  rw [h1, List.length_append] at h2
  omega
theorem refGraph_s {h : Frag} {a : Value} {vs : List View} (hs : SL h 13 (ViewC 4398046511104) a vs) (sm : Small vs) : PSpec Tryz.prog 16 #[a] h (fun h' v => ∃ us, v = .tuple #[.agg us.toArray, .int .i64 (graphR vs).2] ∧ GraphC 4398046511104 h' (graphR vs).1 us) := by
  have hlen := sm.len
  have hfl := sm.fl
  obtain ⟨pv, cv, rfl⟩ := hs.slice
  refine pspec_of (vs := [.slice pv vs.length cv]) Tryz.func16 Tryz.ntmps16 rfl rfl ?_
  (focus (refine Wr ?_; refine Tal ?_; intro b0_1; refine Tm ?_; refine On ?_; refine Wr ?_; refine S_c rfl rfl rfl (C_buildSlice rfl (elm rfl) (zer rfl) rfl rfl rfl rfl ?_); intro b0_2; refine Tm ?_; refine On ?_; refine WP_seq ?_; refine Wr ?_; refine Tm ?_; refine On ?_; refine WP_block ?_))
  refine WP.perm (L2 := (b0_1, cells [.slice none 0 0] 27) :: ([(b0_2, cells [] 27)] ++ [])) perm2 ?_
  (refine WP_loopF (α := Nat × List (List Nd) × Option Addr × Nat × Hp) [2, 0] (fun (s : Nat × List (List Nd) × Option Addr × Nat × Hp) => vs.length - s.1) (fun (s : Nat × List (List Nd) × Option Addr × Nat × Hp) => (b0_1, cells [.slice none 0 0] 27) :: (s.2.2.2.2 ++ [])) (fun (s : Nat × List (List Nd) × Option Addr × Nat × Hp) => [(5, .int .i64 (s.1 : Int)), (4, .slice s.2.2.1 s.2.1.length s.2.2.2.1)]) (fun hh (s : Nat × List (List Nd) × Option Addr × Nat × Hp) => hh = h ∧ s.1 ≤ vs.length ∧ s.2.1 = (vs.take s.1).map (·.objects) ∧ OS h 27 1 (GraphC 4398046511104) (.slice s.2.2.1 s.2.1.length s.2.2.2.1) s.2.1 s.2.2.2.2) (0, [], some ⟨b0_2, 0, none⟩, 0, [(b0_2, cells [] 27)]) ⟨_, _, rfl, ⟨_, _, rfl, rfl, rfl⟩, rfl⟩ ?_ (by repeat' first | exact sR _ | exact sA _ _ | exact sN _ | apply s2 | apply s1) (by repeat' first | exact trivial | refine ⟨rfl, ?_⟩) ?_)
  · exact ⟨rfl, Nat.zero_le _, rfl, OS.lit0 _ _ _ _ _⟩
  rintro h1 ⟨k, gs, p, c, M⟩ _ ⟨rfl, hk, hgs, hO⟩
  simp only at hk hgs hO
  dsimp only
  have hgl : gs.length = k := by rw [hgs]; simp; omega
  by_cases hlt : k < vs.length
  · obtain ⟨v, ev⟩ := get_of hlt
    (focus (refine WP_seq ?_; refine Wr ?_; refine Tm ?_; refine Tm ?_; refine Tlen ?_; refine Tc ?_; refine On ?_; refine Wc ?_ ?_ <;> intro c2_1 <;> (first | simp [*] at c2_1; done | try simp at c2_1); refine WP_skip ?_; refine then_n ?_; refine WP_seq ?_; refine WP_block ?_; refine R_region ?_; refine Tm ?_; refine Tm ?_; refine Tm ?_; refine Ti ?_; refine Tf ?_; refine Tl ?_; refine L_elF ‹_› ‹_› ?_; rintro _ _ _ ⟨xi2_2, xa2_2, po2_2, qo2_2, ps2_2, qs2_2, pc2_2, qc2_2, pn2_2, qn2_2, pm2_2, qm2_2, xw2_2, xv2_2, pf2_2, qf2_2, pr2_2, qr2_2, xe2_2, xf2_2, rfl, vo2_2, vs2_2, vc2_2, vn2_2, vm2_2, vf2_2, vr2_2⟩; refine LV_a (ty rfl) rfl ?_; refine S_c rfl rfl rfl (C_buildSlice rfl (elm rfl) (zer rfl) rfl ⟨_, _, _, rfl, rfl, rfl, rfl, rfl, rfl⟩ rfl rfl ?_); intro b2_3; refine S_w rfl rfl rfl (W_app1 [_] _ hO rfl rfl rfl rfl rfl rfl (elm rfl) (zer rfl) rfl rfl rfl rfl ⟨_, _, rfl, by assumption⟩ (by (try simp only [lA]); omega) (by (try simp only [lA]); omega) ?_); rintro p2_4 q2_4 m2_4 o2_4; refine Tm ?_; refine OPS_nil ?_; refine block_n ?_; refine then_n ?_; refine R_region ?_; refine Tm ?_; refine Ta ?_; refine Tm ?_; refine OPS_nil ?_))
    refine roundF_n (k + 1, gs ++ [v.objects], p2_4, q2_4, m2_4) (by simp only; omega) ⟨rfl, by simp only; omega, ?_, o2_4⟩ (by repeat' first | exact sR _ | exact sA _ _ | exact sN _ | apply s2 | apply s1) (by repeat' first | exact trivial | refine ⟨rfl, ?_⟩)
    simp only; rw [map_take (fun v : View => v.objects) ev, hgs]
  have hge : k = vs.length := by omega
  subst hge
  rw [List.take_length] at hgs
  (focus (refine WP_seq ?_; refine Wr ?_; refine Tm ?_; refine Tm ?_; refine Tlen ?_; refine Tc ?_; refine On ?_; refine Wc ?_ ?_ <;> intro c3_1 <;> (first | simp [*] at c3_1; done | try simp at c3_1); refine WP_exit ?_; refine then_e ?_; refine roundF_e ?_; refine block_e ?_; refine then_n ?_; refine WP_seq ?_; refine Wr ?_; refine Tm ?_; refine On ?_; refine WP_block ?_))
  (refine WP_loopF (α := Nat × List (List Nd) × Option Addr × Nat × Hp) [2, 0] (fun (s : Nat × List (List Nd) × Option Addr × Nat × Hp) => vs.length - s.1) (fun (s : Nat × List (List Nd) × Option Addr × Nat × Hp) => (b0_1, cells [.slice none 0 0] 27) :: (s.2.2.2.2 ++ [])) (fun (s : Nat × List (List Nd) × Option Addr × Nat × Hp) => [(6, .int .i64 (s.1 : Int)), (4, .slice s.2.2.1 s.2.1.length s.2.2.2.1)]) (fun hh (s : Nat × List (List Nd) × Option Addr × Nat × Hp) => le h1 hh ∧ s.1 ≤ vs.length ∧ s.2.1 = vs.map (·.objects) ++ movedG vs ((vs.take s.1).flatMap (flOf vs)) ∧ OS hh 27 1 (GraphC 4398046511104) (.slice s.2.2.1 s.2.1.length s.2.2.2.1) s.2.1 s.2.2.2.2) (0, gs, p, c, M) ⟨_, _, rfl, ⟨_, _, rfl, rfl, rfl⟩, rfl⟩ ?_ (by repeat' first | exact sR _ | exact sA _ _ | exact sN _ | apply s2 | apply s1) (by repeat' first | exact trivial | refine ⟨rfl, ?_⟩) ?_)
  · refine ⟨le_refl _, Nat.zero_le _, ?_, hO⟩
    simp only; rw [List.take_zero, List.flatMap_nil, movedG_nil, List.append_nil]; exact hgs
  clear hO hgs hgl gs p c M
  rintro h2 ⟨k, gs, p, c, M⟩ _ ⟨hl2, hk, hgs, hO⟩
  simp only at hk hgs hO
  dsimp only
  (replace hs := hs.up hl2)
  by_cases hlt : k < vs.length
  · obtain ⟨v, ev⟩ := get_of hlt
    have hvm : v ∈ vs := List.mem_of_getElem? ev
    have hv6 := sm.flights v hvm
    have hfend := flPre_end (vs := vs) ev
    have htf := take_fl sm k
    (focus (refine WP_seq ?_; refine Wr ?_; refine Tm ?_; refine Tm ?_; refine Tlen ?_; refine Tc ?_; refine On ?_; refine Wc ?_ ?_ <;> intro c6_1 <;> (first | simp [*] at c6_1; done | try simp at c6_1); refine WP_skip ?_; refine then_n ?_; refine WP_seq ?_; refine WP_block ?_; refine Wr ?_; refine Tm ?_; refine On ?_; refine WP_block ?_))
    (refine WP_loopF (α := Nat × List (List Nd) × Option Addr × Nat × Hp) [6, 2, 0] (fun (s : Nat × List (List Nd) × Option Addr × Nat × Hp) => v.flights.length - s.1) (fun (s : Nat × List (List Nd) × Option Addr × Nat × Hp) => (b0_1, cells [.slice none 0 0] 27) :: (s.2.2.2.2 ++ [])) (fun (s : Nat × List (List Nd) × Option Addr × Nat × Hp) => [(7, .int .i64 (s.1 : Int)), (4, .slice s.2.2.1 s.2.1.length s.2.2.2.1)]) (fun hh (s : Nat × List (List Nd) × Option Addr × Nat × Hp) => le h2 hh ∧ s.1 ≤ v.flights.length ∧ s.2.1 = vs.map (·.objects) ++ movedG vs (flPre vs k s.1 v) ∧ OS hh 27 1 (GraphC 4398046511104) (.slice s.2.2.1 s.2.1.length s.2.2.2.1) s.2.1 s.2.2.2.2) (0, gs, p, c, M) ⟨_, _, rfl, ⟨_, _, rfl, ⟨_, _, rfl, rfl, rfl⟩, rfl⟩, rfl⟩ ?_ (by repeat' first | exact sR _ | exact sA _ _ | exact sN _ | apply s2 | apply s1) (by repeat' first | exact trivial | refine ⟨rfl, ?_⟩) ?_)
    · refine ⟨le_refl _, Nat.zero_le _, ?_, hO⟩
      simp only; rw [flPre_zero]; exact hgs
    clear hO hgs gs p c M
    rintro h3 ⟨j, gs, p, c, M⟩ _ ⟨hl3, hj, hgs, hO⟩
    simp only at hj hgs hO
    dsimp only
    (replace hs := hs.up hl3)
    have hgl : gs.length ≤ 50 := by
      have := flPre_len vs k j v
      rw [hgs, List.length_append, List.length_map]; omega
    by_cases hlt2 : j < v.flights.length
    · obtain ⟨x, ex⟩ := get_of hlt2
      have hxm := List.mem_of_getElem? ex
      have hx6 := sm.moved v hvm x hxm
      (focus (refine WP_seq ?_; refine Wr ?_; refine Tm ?_; refine Tm ?_; refine Tm ?_; refine Ti ?_; refine Tf ?_; refine Tl ?_; refine L_elF ‹_› ‹_› ?_; rintro _ _ _ ⟨xi9_1, xa9_1, po9_1, qo9_1, ps9_1, qs9_1, pc9_1, qc9_1, pn9_1, qn9_1, pm9_1, qm9_1, xw9_1, xv9_1, pf9_1, qf9_1, pr9_1, qr9_1, xe9_1, xf9_1, rfl, vo9_1, vs9_1, vc9_1, vn9_1, vm9_1, vf9_1, vr9_1⟩; refine LV_1 (ty rfl) rfl ?_; refine Tlen ?_; refine Tc ?_; refine On ?_; refine Wc ?_ ?_ <;> intro c9_2 <;> (first | simp [*] at c9_2; done | try simp at c9_2); refine WP_skip ?_; refine then_n ?_; refine WP_seq ?_; refine WP_block ?_; refine Wr ?_; refine Tm ?_; refine Tm ?_; refine Ti ?_; refine Tf ?_; refine Tl ?_; refine L_elF ‹_› ‹_› ?_; rintro _ _ _ ⟨xi9_3, xa9_3, po9_3, qo9_3, ps9_3, qs9_3, pc9_3, qc9_3, pn9_3, qn9_3, pm9_3, qm9_3, xw9_3, xv9_3, pf9_3, qf9_3, pr9_3, qr9_3, xe9_3, xf9_3, rfl, vo9_3, vs9_3, vc9_3, vn9_3, vm9_3, vf9_3, vr9_3⟩; refine LV_1 (ty rfl) rfl ?_; refine Tm ?_; refine Ti ?_; refine Tl ?_; refine Le ?_; rintro _ _ _ ⟨xa9_4, xb9_4, xc9_4, xd9_4, xe9_4, pa9_4, qa9_4, pf9_4, qf9_4, pm9_4, qm9_4, xw9_4, y19_4, y29_4, y39_4, y49_4, y59_4, y69_4, y79_4, y89_4, y99_4, y109_4, y119_4, y129_4, y139_4, y149_4, y159_4, rfl, ha9_4, hf9_4, hm9_4⟩; refine Tal ?_; intro b9_5; refine Tw u0 ?_; refine On ?_))
      (focus (refine WP_keepM [] [_] _ rfl ?_; rintro h10_k l10_k k10_k; have a10_k := at_of_keep k10_k; clear k10_k; replace hO := hO.up l10_k; replace hs := hs.up l10_k; replace vo9_1 := vo9_1.up l10_k; replace vs9_1 := vs9_1.up l10_k; replace vc9_1 := vc9_1.up l10_k; replace vn9_1 := vn9_1.up l10_k; replace vm9_1 := vm9_1.up l10_k; replace vf9_1 := vf9_1.up l10_k; replace vr9_1 := vr9_1.up l10_k; replace vo9_3 := vo9_3.up l10_k; replace vs9_3 := vs9_3.up l10_k; replace vc9_3 := vc9_3.up l10_k; replace vn9_3 := vn9_3.up l10_k; replace vm9_3 := vm9_3.up l10_k; replace vf9_3 := vf9_3.up l10_k; replace vr9_3 := vr9_3.up l10_k; replace ha9_4 := ha9_4.up l10_k; replace hf9_4 := hf9_4.up l10_k; replace hm9_4 := hm9_4.up l10_k))
      by_cases hmk : x.msg.kind = 1
      · cases hfy : flyB vs v x with
        | false =>
          have hmg := movedG_no2 (vs := vs) (k := k) ex hfy
          (focus (refine WP_seq ?_; refine R_draw (n := 13) mixed rfl ?_; refine Va 0 ?_; refine Vf 1 ?_; refine Va 1 ?_; refine Vf 3 ?_; refine Va 2 ?_; refine Vl 7 ?_; refine L_fld2 (Rd.pers ‹_›) ?_; refine LV_1 (ty rfl) rfl ?_; refine Va 3 ?_; refine A_q (m' := 15) rfl rfl rfl (Q_cmp rfl rfl rfl rfl) rfl (by decide +kernel) ?_; refine Va 4 ?_; refine Vm 31 ?_; refine Va 5 ?_; refine Vgs ?_ ?_ <;> intro c11_1 <;> (first | simp [*] at c11_1; done | try simp at c11_1); refine Va 5 ?_; refine Vgm 63 ?_; refine Va 6 ?_; refine Vgm 127 ?_; refine Va 7 ?_; refine Vgm 255 ?_; refine Va 8 ?_; refine A_gq (m' := 511) rfl rfl rfl rfl rfl rfl (Q_indexS ‹_› ‹_› rfl rfl rfl (elm rfl) rfl) rfl (by decide +kernel) ?_; refine Va 9 ?_; refine Vgl 1023 ?_; refine Le ?_; rintro _ _ _ ⟨xi11_2, xa11_2, po11_2, qo11_2, ps11_2, qs11_2, pc11_2, qc11_2, pn11_2, qn11_2, pm11_2, qm11_2, xw11_2, xv11_2, pf11_2, qf11_2, pr11_2, qr11_2, xe11_2, xf11_2, rfl, vo11_2, vs11_2, vc11_2, vn11_2, vm11_2, vf11_2, vr11_2⟩; refine Va 10 ?_; refine Vgl 2047 ?_; refine Lp ?_; refine Va 11 ?_; refine A_gc (m' := 4095) rfl rfl rfl rfl rfl rfl rfl (by decide +kernel) (C_callv (refFlying_s ‹_› ⟨by assumption, _, _, _, _, _, _, _, _, _, _, _, _, _, _, _, _, _, _, _, rfl, by assumption, by assumption, by assumption, by assumption, by assumption, by assumption, by assumption⟩ ⟨_, _, _, _, _, _, _, _, _, _, _, _, _, _, _, _, _, _, _, _, _, _, _, _, _, _, _, rfl, by assumption, by assumption, by assumption⟩) rfl rfl ⟨_, _, rfl, ⟨_, _, rfl, ⟨_, _, rfl, rfl, rfl⟩, rfl⟩, rfl⟩ (cal rfl) ?_); refine Va 12 ?_; refine A_q (m' := 8191) rfl rfl rfl (Q_pick_t rfl rfl rfl) rfl (by decide +kernel) ?_; refine A_done (by decide +kernel) ?_; refine then_n ?_; refine Wc ?_ ?_ <;> intro c11_3 <;> (first | simp [*] at c11_3; done | try simp at c11_3); refine WP_skip ?_; refine block_n ?_; refine then_n ?_; refine R_region ?_; refine Tm ?_; refine Ta ?_; refine Tm ?_; refine OPS_nil ?_))
          refine roundF_n (j + 1, gs, p, c, M) (by simp only; omega) ⟨le_trans hl3 l10_k, by simp only; omega, ?_, hO⟩ (by repeat' first | exact sR _ | exact sA _ _ | exact sN _ | apply s2 | apply s1) (by repeat' first | exact trivial | refine ⟨rfl, ?_⟩)
          simp only; rw [hmg]; exact hgs
        | true =>
          have hmg := movedG_yes (vs := vs) (k := k) ex hmk hfy
          (focus (refine WP_seq ?_; refine R_draw (n := 13) mixed rfl ?_; refine Va 0 ?_; refine Vf 1 ?_; refine Va 1 ?_; refine Vf 3 ?_; refine Va 2 ?_; refine Vl 7 ?_; refine L_fld2 (Rd.pers ‹_›) ?_; refine LV_1 (ty rfl) rfl ?_; refine Va 3 ?_; refine A_q (m' := 15) rfl rfl rfl (Q_cmp rfl rfl rfl rfl) rfl (by decide +kernel) ?_; refine Va 4 ?_; refine Vm 31 ?_; refine Va 5 ?_; refine Vgs ?_ ?_ <;> intro c12_1 <;> (first | simp [*] at c12_1; done | try simp at c12_1); refine Va 5 ?_; refine Vgm 63 ?_; refine Va 6 ?_; refine Vgm 127 ?_; refine Va 7 ?_; refine Vgm 255 ?_; refine Va 8 ?_; refine A_gq (m' := 511) rfl rfl rfl rfl rfl rfl (Q_indexS ‹_› ‹_› rfl rfl rfl (elm rfl) rfl) rfl (by decide +kernel) ?_; refine Va 9 ?_; refine Vgl 1023 ?_; refine Le ?_; rintro _ _ _ ⟨xi12_2, xa12_2, po12_2, qo12_2, ps12_2, qs12_2, pc12_2, qc12_2, pn12_2, qn12_2, pm12_2, qm12_2, xw12_2, xv12_2, pf12_2, qf12_2, pr12_2, qr12_2, xe12_2, xf12_2, rfl, vo12_2, vs12_2, vc12_2, vn12_2, vm12_2, vf12_2, vr12_2⟩; refine Va 10 ?_; refine Vgl 2047 ?_; refine Lp ?_; refine Va 11 ?_; refine A_gc (m' := 4095) rfl rfl rfl rfl rfl rfl rfl (by decide +kernel) (C_callv (refFlying_s ‹_› ⟨by assumption, _, _, _, _, _, _, _, _, _, _, _, _, _, _, _, _, _, _, _, rfl, by assumption, by assumption, by assumption, by assumption, by assumption, by assumption, by assumption⟩ ⟨_, _, _, _, _, _, _, _, _, _, _, _, _, _, _, _, _, _, _, _, _, _, _, _, _, _, _, rfl, by assumption, by assumption, by assumption⟩) rfl rfl ⟨_, _, rfl, ⟨_, _, rfl, ⟨_, _, rfl, rfl, rfl⟩, rfl⟩, rfl⟩ (cal rfl) ?_); refine Va 12 ?_; refine A_q (m' := 8191) rfl rfl rfl (Q_pick_t rfl rfl rfl) rfl (by decide +kernel) ?_; refine A_done (by decide +kernel) ?_; refine then_n ?_; refine Wc ?_ ?_ <;> intro c12_3 <;> (first | simp [*] at c12_3; done | try simp at c12_3); refine R_draw (n := 14) mixed rfl ?_; refine Va 0 ?_; refine Vm 1 ?_; refine Va 1 ?_; refine Vm 3 ?_; refine Va 2 ?_; refine Vm 7 ?_; refine Va 3 ?_; refine Vm 15 ?_; refine Va 4 ?_; refine A_q (m' := 31) rfl rfl rfl (Q_indexS ‹_› ‹_› rfl rfl rfl (elm rfl) rfl) rfl (by decide +kernel) ?_; refine Va 5 ?_; refine Vf 63 ?_; refine Va 6 ?_; refine Vl 127 ?_; refine L_elF ‹_› ‹_› ?_; rintro _ _ _ ⟨xi12_4, xa12_4, po12_4, qo12_4, ps12_4, qs12_4, pc12_4, qc12_4, pn12_4, qn12_4, pm12_4, qm12_4, xw12_4, xv12_4, pf12_4, qf12_4, pr12_4, qr12_4, xe12_4, xf12_4, rfl, vo12_4, vs12_4, vc12_4, vn12_4, vm12_4, vf12_4, vr12_4⟩; refine LV_1 (ty rfl) rfl ?_; refine Va 7 ?_; refine Vl 255 ?_; refine Lp ?_; refine Va 8 ?_; refine A_c (m' := 511) rfl rfl rfl rfl (by decide +kernel) (C_call (refMoved_s ‹_› ⟨_, _, _, _, _, _, _, _, _, _, _, _, _, _, _, _, _, _, _, _, _, _, _, _, _, _, _, rfl, by assumption, by assumption, by assumption⟩ ‹_› (by omega)) rfl rfl ⟨_, _, rfl, ⟨_, _, rfl, ⟨_, _, rfl, rfl, rfl⟩, rfl⟩, rfl⟩ (cal rfl) ?_); rintro h12_5 _ l12_5 ⟨pn12_5, qn12_5, rfl, fn12_5⟩; replace a10_k := a10_k.up l12_5; replace hO := hO.up l12_5; replace hs := hs.up l12_5; replace vo9_1 := vo9_1.up l12_5; replace vs9_1 := vs9_1.up l12_5; replace vc9_1 := vc9_1.up l12_5; replace vn9_1 := vn9_1.up l12_5; replace vm9_1 := vm9_1.up l12_5; replace vf9_1 := vf9_1.up l12_5; replace vr9_1 := vr9_1.up l12_5; replace vo9_3 := vo9_3.up l12_5; replace vs9_3 := vs9_3.up l12_5; replace vc9_3 := vc9_3.up l12_5; replace vn9_3 := vn9_3.up l12_5; replace vm9_3 := vm9_3.up l12_5; replace vf9_3 := vf9_3.up l12_5; replace vr9_3 := vr9_3.up l12_5; replace ha9_4 := ha9_4.up l12_5; replace hf9_4 := hf9_4.up l12_5; replace hm9_4 := hm9_4.up l12_5; replace vo12_2 := vo12_2.up l12_5; replace vs12_2 := vs12_2.up l12_5; replace vc12_2 := vc12_2.up l12_5; replace vn12_2 := vn12_2.up l12_5; replace vm12_2 := vm12_2.up l12_5; replace vf12_2 := vf12_2.up l12_5; replace vr12_2 := vr12_2.up l12_5; replace vo12_4 := vo12_4.up l12_5; replace vs12_4 := vs12_4.up l12_5; replace vc12_4 := vc12_4.up l12_5; replace vn12_4 := vn12_4.up l12_5; replace vm12_4 := vm12_4.up l12_5; replace vf12_4 := vf12_4.up l12_5; replace vr12_4 := vr12_4.up l12_5; refine Va 9 ?_; refine A_c (m' := 1023) rfl rfl rfl rfl (by decide +kernel) (C_buildSlice rfl (elm rfl) (zer rfl) rfl ⟨_, _, _, rfl, rfl, rfl, rfl, rfl, rfl⟩ rfl rfl ?_); intro b12_6; refine Va 10 ?_; refine A_q (m' := 2047) rfl rfl rfl (Q_build rfl (by decide +kernel) (zer rfl) ⟨_, _, _, _, _, _, _, rfl, fld rfl rfl, ty rfl, rfl, rfl, rfl, rfl⟩ rfl) rfl (by decide +kernel) ?_; refine Va 11 ?_; refine A_c (m' := 4095) rfl rfl rfl rfl (by decide +kernel) (C_buildSlice rfl (elm rfl) (zer rfl) rfl ⟨_, _, _, rfl, rfl, rfl, rfl, rfl, rfl⟩ rfl rfl ?_); intro b12_7))
          (focus (refine ANY_keepM' (by decide +kernel) [_] [_] _ rfl ?_; rintro h13_k l13_k k13_k; have a13_k := at_of_keep k13_k; clear k13_k; replace fn12_5 := fn12_5.up l13_k; replace a10_k := a10_k.up l13_k; replace hO := hO.up l13_k; replace hs := hs.up l13_k; replace vo9_1 := vo9_1.up l13_k; replace vs9_1 := vs9_1.up l13_k; replace vc9_1 := vc9_1.up l13_k; replace vn9_1 := vn9_1.up l13_k; replace vm9_1 := vm9_1.up l13_k; replace vf9_1 := vf9_1.up l13_k; replace vr9_1 := vr9_1.up l13_k; replace vo9_3 := vo9_3.up l13_k; replace vs9_3 := vs9_3.up l13_k; replace vc9_3 := vc9_3.up l13_k; replace vn9_3 := vn9_3.up l13_k; replace vm9_3 := vm9_3.up l13_k; replace vf9_3 := vf9_3.up l13_k; replace vr9_3 := vr9_3.up l13_k; replace ha9_4 := ha9_4.up l13_k; replace hf9_4 := hf9_4.up l13_k; replace hm9_4 := hm9_4.up l13_k; replace vo12_2 := vo12_2.up l13_k; replace vs12_2 := vs12_2.up l13_k; replace vc12_2 := vc12_2.up l13_k; replace vn12_2 := vn12_2.up l13_k; replace vm12_2 := vm12_2.up l13_k; replace vf12_2 := vf12_2.up l13_k; replace vr12_2 := vr12_2.up l13_k; replace vo12_4 := vo12_4.up l13_k; replace vs12_4 := vs12_4.up l13_k; replace vc12_4 := vc12_4.up l13_k; replace vn12_4 := vn12_4.up l13_k; replace vm12_4 := vm12_4.up l13_k; replace vf12_4 := vf12_4.up l13_k; replace vr12_4 := vr12_4.up l13_k))
          have hnd : NodeC 4398046511104 h13_k (movedOf vs (v, x)) [.int .i64 (refMoved vs v.machine x).id.1, .int .i64 (refMoved vs v.machine x).id.2, .int .i64 (refMoved vs v.machine x).kind, .int .i64 (refMoved vs v.machine x).cls, .slice pn12_5 (refMoved vs v.machine x).fields.length qn12_5] := by
            rw [← refMoved_eq]; exact ⟨_, _, rfl, fn12_5⟩
          have hGr : SL h13_k 5 (NodeC 4398046511104) (.slice (some ⟨b12_6, 0, none⟩) [movedOf vs (v, x)].length 1) [movedOf vs (v, x)] := slb_of_at a13_k (Flat.one rfl rfl hnd) (by simp)
          (focus (refine Va 12 ?_; refine A_w (m' := 8191) rfl rfl rfl rfl rfl (by decide +kernel) (W_app1 [_] _ hO rfl rfl rfl rfl rfl rfl (elm rfl) (zer rfl) rfl rfl rfl rfl ⟨_, _, rfl, by assumption⟩ (by (try simp only [lA]); omega) (by (try simp only [lA]); omega) ?_); rintro p14_1 q14_1 m14_1 o14_1; refine Va 13 ?_; refine Vs 16383 ?_; refine A_done (by decide +kernel) ?_; refine block_n ?_; refine then_n ?_; refine R_region ?_; refine Tm ?_; refine Ta ?_; refine Tm ?_; refine OPS_nil ?_))
          refine roundF_n (j + 1, gs ++ [[movedOf vs (v, x)]], p14_1, q14_1, m14_1) (by simp only; omega) ⟨le_trans hl3 (le_trans l10_k (le_trans l12_5 l13_k)), by simp only; omega, ?_, o14_1⟩ (by repeat' first | exact sR _ | exact sA _ _ | exact sN _ | apply s2 | apply s1) (by repeat' first | exact trivial | refine ⟨rfl, ?_⟩)
          simp only; rw [hmg, hgs, List.append_assoc]
      · have hmg := movedG_no1 (vs := vs) (k := k) ex hmk
        (focus (refine WP_seq ?_; refine R_draw (n := 13) mixed rfl ?_; refine Va 0 ?_; refine Vf 1 ?_; refine Va 1 ?_; refine Vf 3 ?_; refine Va 2 ?_; refine Vl 7 ?_; refine L_fld2 (Rd.pers ‹_›) ?_; refine LV_1 (ty rfl) rfl ?_; refine Va 3 ?_; refine A_q (m' := 15) rfl rfl rfl (Q_cmp rfl rfl rfl rfl) rfl (by decide +kernel) ?_; refine Va 4 ?_; refine Vm 31 ?_; refine Va 5 ?_; refine Vgs ?_ ?_ <;> intro c15_1 <;> (first | simp [*] at c15_1; done | try simp at c15_1); refine Va 5 ?_; refine Vn 63 ?_; refine Va 6 ?_; refine Vn 127 ?_; refine Va 7 ?_; refine Vn 255 ?_; refine Va 8 ?_; refine Vn 511 ?_; refine Va 9 ?_; refine Vn 1023 ?_; refine Va 10 ?_; refine Vn 2047 ?_; refine Va 11 ?_; refine Vn 4095 ?_; refine Va 12 ?_; refine A_q (m' := 8191) rfl rfl rfl (Q_pick_f rfl rfl rfl) rfl (by decide +kernel) ?_; refine A_done (by decide +kernel) ?_; refine then_n ?_; refine cond_f rfl ?_; refine WP_skip ?_; refine block_n ?_; refine then_n ?_; refine R_region ?_; refine Tm ?_; refine Ta ?_; refine Tm ?_; refine OPS_nil ?_))
        refine roundF_n (j + 1, gs, p, c, M) (by simp only; omega) ⟨le_trans hl3 l10_k, by simp only; omega, ?_, hO⟩ (by repeat' first | exact sR _ | exact sA _ _ | exact sN _ | apply s2 | apply s1) (by repeat' first | exact trivial | refine ⟨rfl, ?_⟩)
        simp only; rw [hmg]; exact hgs
    · have hge : j = v.flights.length := by omega
      subst hge
      rw [hfend] at hgs
      (focus (refine WP_seq ?_; refine Wr ?_; refine Tm ?_; refine Tm ?_; refine Tm ?_; refine Ti ?_; refine Tf ?_; refine Tl ?_; refine L_elF ‹_› ‹_› ?_; rintro _ _ _ ⟨xi16_1, xa16_1, po16_1, qo16_1, ps16_1, qs16_1, pc16_1, qc16_1, pn16_1, qn16_1, pm16_1, qm16_1, xw16_1, xv16_1, pf16_1, qf16_1, pr16_1, qr16_1, xe16_1, xf16_1, rfl, vo16_1, vs16_1, vc16_1, vn16_1, vm16_1, vf16_1, vr16_1⟩; refine LV_1 (ty rfl) rfl ?_; refine Tlen ?_; refine Tc ?_; refine On ?_; refine Wc ?_ ?_ <;> intro c16_2 <;> (first | simp [*] at c16_2; done | try simp at c16_2); refine WP_exit ?_; refine then_e ?_; refine roundF_e ?_; refine block_e ?_; refine block_n ?_; refine then_n ?_; refine R_region ?_; refine Tm ?_; refine Ta ?_; refine Tm ?_; refine OPS_nil ?_))
      exact roundF_n (k + 1, gs, p, c, M) (by simp only; omega) ⟨le_trans hl2 hl3, by simp only; omega, hgs, hO⟩ (by repeat' first | exact sR _ | exact sA _ _ | exact sN _ | apply s2 | apply s1) (by repeat' first | exact trivial | refine ⟨rfl, ?_⟩)
  have hge : k = vs.length := by omega
  subst hge
  rw [List.take_length, ← graphParts_def] at hgs
  refine WP_keepM [_] M _ rfl fun h3 hl3 hm3 => ?_
  have hgl : gs.length ≤ 100 := by rw [hgs, graphParts_def, List.length_append, List.length_map]; have h1 := movedG_len vs (vs.flatMap (flOf vs)); have h2 := sm.fl; rw [flightsOf] at h2; omega
  have hS : SL h3 1 (GraphC 4398046511104) (.slice p gs.length c) gs := hO.sl hl3 (GraphC_mono _) hm3 (by omega)
  clear hO hm3
  (replace hs := hs.up hl3)
  have hpl : gs.flatten.length ≤ 1000000 := by rw [hgs]; exact sm.parts
  (focus (refine WP_seq ?_; refine Wr ?_; refine Tm ?_; refine Tm ?_; refine Tlen ?_; refine Tc ?_; refine On ?_; refine Wc ?_ ?_ <;> intro c18_1 <;> (first | simp [*] at c18_1; done | try simp at c18_1); refine WP_exit ?_; refine then_e ?_; refine roundF_e ?_; refine block_e ?_; refine then_n ?_; refine Wr ?_; refine Tm ?_; refine S_c rfl rfl rfl (C_call (refUnion_s ‹_› (by omega)) rfl rfl ⟨_, _, rfl, rfl, rfl⟩ (cal rfl) ?_); rintro h18_2 _ l18_2 ⟨_, rfl, pg18_2, qg18_2, rfl, fg18_2⟩; replace hS := hS.up l18_2; replace hs := hs.up l18_2; refine Tx ?_; refine Tx ?_; refine Tw u0 ?_; refine Tm ?_; refine On ?_; refine WP_ret ?_))
  refine pret (.inl rfl) rfl ⟨_, _, _, rfl, Loads_agg (Rd.own m0) (ty rfl) rfl, ⟨_, _, rfl, rfl, rfl⟩, rfl⟩ ?_
  rw [graphR, ← hgs]
  exact ⟨_, rfl, _, _, rfl, by assumption⟩
end Go.Proofs.YtfhoecgiahpddaaGreat
/-
  CONTRACTS: an identity put into a list by the reference (refmeshref16.putID, refmeshref21.Put).
-/
set_option linter.all false
namespace Go.Proofs.YtfhoecgiahpddaaGreat
open Go.Mesh Go.RowKit
set_option maxRecDepth 100000
set_option linter.unusedVariables false
set_option maxHeartbeats 4000000
attribute [local irreducible] WP OPS ANY ANYo LG LV FSpec PSpec QOP OPc OPw thenQ blockQ roundQ roundF retQ retM Rd At SLB OS cmpI orI cmpID namedB valB nodeB kindB validG valAux idxI findG zeroV viewOf vwAt idxOf recv flyB scionOf moveOf numberedOf idOf valueOf mget mput localB carriedB msgB sizesB smallV fewB stubOf followF followOf flOf flightsOf flPre setL minusL compactL putI mergeN insN insAll unionR NMap Coll retN bodyS GMap Dfs refsV refsOf reachL movedOf movedG graphParts graphR isMove flightIDs mailIDs viewIDs rawRoots rootsR refFl refMoved
theorem putI_lt {l : List ID} {x y : ID} {k : Nat} (hx : l[k]? = some y) (hc : cmpID y x < 0) (ht : putI l x = l.take k ++ putI (l.drop k) x) : putI l x = l.take (k + 1) ++ putI (l.drop (k + 1)) x := by
  rw [drop_get hx, putI, if_pos hc] at ht
  rw [ht, List.take_add_one, hx]; simp
theorem putI_eq {l : List ID} {x y : ID} {k : Nat} (hx : l[k]? = some y) (hc : ¬ cmpID y x < 0) (he : y = x) (ht : putI l x = l.take k ++ putI (l.drop k) x) : putI l x = l := by
  rw [drop_get hx, putI, if_neg hc, if_pos he] at ht
  rw [ht, ← drop_get hx, List.take_append_drop]
theorem putI_ne {l : List ID} {x y : ID} {k : Nat} (hx : l[k]? = some y) (hc : ¬ cmpID y x < 0) (he : ¬ y = x) (ht : putI l x = l.take k ++ putI (l.drop k) x) : putI l x = l.take k ++ [x] ++ l.drop k := by
  rw [drop_get hx, putI, if_neg hc, if_neg he] at ht
  rw [ht, drop_get hx]; simp
theorem putI_end {l : List ID} {x : ID} (ht : putI l x = l.take l.length ++ putI (l.drop l.length) x) : putI l x = l.take l.length ++ [x] ++ l.drop l.length := by
  rw [ht]; simp [putI]
theorem putID_s {h : Frag} {p : Option Addr} {c : Nat} {l : List ID} {x : ID} (hs : SL h 2 IDC (.slice p l.length c) l) (hc : l.length ≤ c) (hb : l.length ≤ 2000000) : PSpec Tryz.prog 101 #[.slice p l.length c, .agg (idc x).toArray] h
    (fun h' v => ∃ p' c', v = .slice p' (putI l x).length c' ∧ SL h' 2 IDC (.slice p' (putI l x).length c') (putI l x) ∧ (putI l x).length ≤ c') := by
  obtain ⟨x1, x2⟩ := x
  refine pspec_of (vs := [.slice p l.length c, .agg (idc (x1, x2)).toArray]) Tryz.func101 Tryz.ntmps101 rfl rfl ?_
  (focus (refine Wr ?_; refine Tbx ?_; intro b0_1; refine Tm ?_; refine On ?_; refine Wr ?_; refine Tm ?_; refine On ?_; refine WP_seq ?_; refine WP_block ?_))
  (focus (refine WP_keepM [] [_] _ rfl ?_; rintro h1_k l1_k k1_k; have a1_k := at_of_keep k1_k; clear k1_k; replace hs := hs.up l1_k))
  (refine WP_loopC (α := Nat) [3, 0] (fun (k : Nat) => l.length - k) (fun (k : Nat) => [(5, .int .i64 k)]) (fun hh (k : Nat) => hh = h1_k ∧ k ≤ l.length ∧ putI l (x1, x2) = l.take k ++ putI (l.drop k) (x1, x2)) 0 ⟨_, _, rfl, ⟨_, _, rfl, rfl, rfl⟩, rfl⟩ (by repeat' first | exact trivial | refine ⟨rfl, ?_⟩) ?_ ?_)
  · exact ⟨rfl, Nat.zero_le _, by simp⟩
  rintro h1 k _ ⟨rfl, hk, ht⟩
  by_cases hlt : k < l.length
  · obtain ⟨⟨y1, y2⟩, ex⟩ := get_of hlt
    by_cases hm : cmpID (y1, y2) (x1, x2) < 0
    · (focus (refine WP_seq ?_; refine WP_seq ?_; refine R_draw (n := 13) mixed rfl ?_; refine Va 0 ?_; refine Vm 1 ?_; refine Va 1 ?_; refine Vm 3 ?_; refine Va 2 ?_; refine A_q (m' := 7) rfl rfl rfl (Q_len rfl rfl rfl rfl rfl rfl) rfl (by decide +kernel) ?_; refine Va 3 ?_; refine A_q (m' := 15) rfl rfl rfl (Q_cmp rfl rfl rfl rfl) rfl (by decide +kernel) ?_; refine Va 4 ?_; refine Vm 31 ?_; refine Va 5 ?_; refine Vgs ?_ ?_ <;> intro c3_1 <;> (first | simp [*] at c3_1; done | try simp at c3_1); refine Va 5 ?_; refine Vgm 63 ?_; refine Va 6 ?_; refine Vgm 127 ?_; refine Va 7 ?_; refine A_gq (m' := 255) rfl rfl rfl rfl rfl rfl (Q_indexS ‹_› ‹_› rfl rfl rfl (elm rfl) rfl) rfl (by decide +kernel) ?_; refine Va 8 ?_; refine Vgl 511 ?_; refine Le ?_; rintro _ _ _ rfl; refine Va 9 ?_; refine Vgl 1023 ?_; refine Lp ?_; refine Va 10 ?_; refine A_gc (m' := 2047) rfl rfl rfl rfl rfl rfl rfl (by decide +kernel) (C_callv (refCmp16_s _ (_, _) (_, _)) rfl rfl ⟨_, _, rfl, ⟨_, _, rfl, rfl, rfl⟩, rfl⟩ (cal rfl) ?_); refine Va 11 ?_; refine A_gq (m' := 4095) rfl rfl rfl rfl rfl rfl (Q_cmp rfl rfl rfl rfl) rfl (by decide +kernel) ?_; refine Va 12 ?_; refine A_q (m' := 8191) rfl rfl rfl (Q_pick_t rfl rfl rfl) rfl (by decide +kernel) ?_; refine A_done (by decide +kernel) ?_; refine then_n ?_; refine Wc ?_ ?_ <;> intro c3_3 <;> (first | simp [*] at c3_3; done | try simp at c3_3); refine WP_skip ?_; refine then_n ?_; refine WP_block ?_; refine R_region ?_; refine Tm ?_; refine Ta ?_; refine Tm ?_; refine OPS_nil ?_; refine block_n ?_))
      exact roundF_n (k + 1) (by omega) ⟨rfl, by omega, putI_lt ex hm ht⟩ (by repeat' first | exact sR _ | exact sA _ _ | exact sN _ | apply s2 | apply s1) (by repeat' first | exact trivial | refine ⟨rfl, ?_⟩)
    by_cases he : (y1, y2) = (x1, x2)
    · have hr := putI_eq ex hm he ht
      (focus (refine WP_seq ?_; refine WP_seq ?_; refine R_draw (n := 13) mixed rfl ?_; refine Va 0 ?_; refine Vm 1 ?_; refine Va 1 ?_; refine Vm 3 ?_; refine Va 2 ?_; refine A_q (m' := 7) rfl rfl rfl (Q_len rfl rfl rfl rfl rfl rfl) rfl (by decide +kernel) ?_; refine Va 3 ?_; refine A_q (m' := 15) rfl rfl rfl (Q_cmp rfl rfl rfl rfl) rfl (by decide +kernel) ?_; refine Va 4 ?_; refine Vm 31 ?_; refine Va 5 ?_; refine Vgs ?_ ?_ <;> intro c4_1 <;> (first | simp [*] at c4_1; done | try simp at c4_1); refine Va 5 ?_; refine Vgm 63 ?_; refine Va 6 ?_; refine Vgm 127 ?_; refine Va 7 ?_; refine A_gq (m' := 255) rfl rfl rfl rfl rfl rfl (Q_indexS ‹_› ‹_› rfl rfl rfl (elm rfl) rfl) rfl (by decide +kernel) ?_; refine Va 8 ?_; refine Vgl 511 ?_; refine Le ?_; rintro _ _ _ rfl; refine Va 9 ?_; refine Vgl 1023 ?_; refine Lp ?_; refine Va 10 ?_; refine A_gc (m' := 2047) rfl rfl rfl rfl rfl rfl rfl (by decide +kernel) (C_callv (refCmp16_s _ (_, _) (_, _)) rfl rfl ⟨_, _, rfl, ⟨_, _, rfl, rfl, rfl⟩, rfl⟩ (cal rfl) ?_); refine Va 11 ?_; refine A_gq (m' := 4095) rfl rfl rfl rfl rfl rfl (Q_cmp rfl rfl rfl rfl) rfl (by decide +kernel) ?_; refine Va 12 ?_; refine A_q (m' := 8191) rfl rfl rfl (Q_pick_t rfl rfl rfl) rfl (by decide +kernel) ?_; refine A_done (by decide +kernel) ?_; refine then_n ?_; refine Wc ?_ ?_ <;> intro c4_3 <;> (first | simp [*] at c4_3; done | try simp at c4_3); (focus (exfalso; omega)); (focus (refine WP_exit ?_; refine then_e ?_; refine roundF_e ?_; refine block_e ?_; refine then_n ?_; refine WP_seq ?_; refine WP_seq ?_; refine R_draw (n := 12) mixed rfl ?_; refine Va 0 ?_; refine Vm 1 ?_; refine Va 1 ?_; refine Vm 3 ?_; refine Va 2 ?_; refine A_q (m' := 7) rfl rfl rfl (Q_len rfl rfl rfl rfl rfl rfl) rfl (by decide +kernel) ?_; refine Va 3 ?_; refine A_q (m' := 15) rfl rfl rfl (Q_cmp rfl rfl rfl rfl) rfl (by decide +kernel) ?_; refine Va 4 ?_; refine Vm 31 ?_; refine Va 5 ?_; refine Vgs ?_ ?_ <;> intro c4_4 <;> (first | simp [*] at c4_4; done | try simp at c4_4); refine Va 5 ?_; refine Vgm 63 ?_; refine Va 6 ?_; refine Vgm 127 ?_; refine Va 7 ?_; refine A_gq (m' := 255) rfl rfl rfl rfl rfl rfl (Q_indexS ‹_› ‹_› rfl rfl rfl (elm rfl) rfl) rfl (by decide +kernel) ?_; refine Va 8 ?_; refine Vgl 511 ?_; refine Le ?_; rintro _ _ _ rfl; refine Va 9 ?_; refine Vgl 1023 ?_; refine Lp ?_; refine Va 10 ?_; refine A_gq (m' := 2047) rfl rfl rfl rfl rfl rfl (Q_eqI eqID rfl rfl rfl rfl rfl) rfl (by decide +kernel) ?_; refine Va 11 ?_; refine A_q (m' := 4095) rfl rfl rfl (Q_pick_t rfl rfl rfl) rfl (by decide +kernel) ?_; refine A_done (by decide +kernel) ?_; refine then_n ?_; refine Wc ?_ ?_ <;> intro c4_6 <;> (first | simp [*] at c4_6; done | try simp at c4_6); refine Wr ?_; refine Tm ?_; refine Tm ?_; refine On ?_; refine WP_ret ?_; refine then_r ?_)); rotate_left 1))
      rw [hr]
      all_goals refine pret (.inl rfl) rfl ⟨_, _, rfl, rfl, rfl⟩ ?_
      all_goals exact ⟨_, _, rfl, hs, hc⟩
    have hr := putI_ne ex hm he ht
    have hT := hs.toV hc (u := k) (by omega)
    have hF := hs.fromV hc (u := k) (by omega)
    have hlen : ([] ++ l : List ID).length = l.length := rfl
    have hTl : (List.take k l).length = k := by rw [List.length_take]; omega
    have hFl : (List.drop k l).length ≤ l.length := by rw [List.length_drop]; omega
    (focus (refine WP_seq ?_; refine WP_seq ?_; refine R_draw (n := 13) mixed rfl ?_; refine Va 0 ?_; refine Vm 1 ?_; refine Va 1 ?_; refine Vm 3 ?_; refine Va 2 ?_; refine A_q (m' := 7) rfl rfl rfl (Q_len rfl rfl rfl rfl rfl rfl) rfl (by decide +kernel) ?_; refine Va 3 ?_; refine A_q (m' := 15) rfl rfl rfl (Q_cmp rfl rfl rfl rfl) rfl (by decide +kernel) ?_; refine Va 4 ?_; refine Vm 31 ?_; refine Va 5 ?_; refine Vgs ?_ ?_ <;> intro c5_1 <;> (first | simp [*] at c5_1; done | try simp at c5_1); refine Va 5 ?_; refine Vgm 63 ?_; refine Va 6 ?_; refine Vgm 127 ?_; refine Va 7 ?_; refine A_gq (m' := 255) rfl rfl rfl rfl rfl rfl (Q_indexS ‹_› ‹_› rfl rfl rfl (elm rfl) rfl) rfl (by decide +kernel) ?_; refine Va 8 ?_; refine Vgl 511 ?_; refine Le ?_; rintro _ _ _ rfl; refine Va 9 ?_; refine Vgl 1023 ?_; refine Lp ?_; refine Va 10 ?_; refine A_gc (m' := 2047) rfl rfl rfl rfl rfl rfl rfl (by decide +kernel) (C_callv (refCmp16_s _ (_, _) (_, _)) rfl rfl ⟨_, _, rfl, ⟨_, _, rfl, rfl, rfl⟩, rfl⟩ (cal rfl) ?_); refine Va 11 ?_; refine A_gq (m' := 4095) rfl rfl rfl rfl rfl rfl (Q_cmp rfl rfl rfl rfl) rfl (by decide +kernel) ?_; refine Va 12 ?_; refine A_q (m' := 8191) rfl rfl rfl (Q_pick_t rfl rfl rfl) rfl (by decide +kernel) ?_; refine A_done (by decide +kernel) ?_; refine then_n ?_; refine Wc ?_ ?_ <;> intro c5_3 <;> (first | simp [*] at c5_3; done | try simp at c5_3); refine WP_exit ?_; refine then_e ?_; refine roundF_e ?_; refine block_e ?_; refine then_n ?_; refine WP_seq ?_; refine WP_seq ?_; refine R_draw (n := 12) mixed rfl ?_; refine Va 0 ?_; refine Vm 1 ?_; refine Va 1 ?_; refine Vm 3 ?_; refine Va 2 ?_; refine A_q (m' := 7) rfl rfl rfl (Q_len rfl rfl rfl rfl rfl rfl) rfl (by decide +kernel) ?_; refine Va 3 ?_; refine A_q (m' := 15) rfl rfl rfl (Q_cmp rfl rfl rfl rfl) rfl (by decide +kernel) ?_; refine Va 4 ?_; refine Vm 31 ?_; refine Va 5 ?_; refine Vgs ?_ ?_ <;> intro c5_4 <;> (first | simp [*] at c5_4; done | try simp at c5_4); refine Va 5 ?_; refine Vgm 63 ?_; refine Va 6 ?_; refine Vgm 127 ?_; refine Va 7 ?_; refine A_gq (m' := 255) rfl rfl rfl rfl rfl rfl (Q_indexS ‹_› ‹_› rfl rfl rfl (elm rfl) rfl) rfl (by decide +kernel) ?_; refine Va 8 ?_; refine Vgl 511 ?_; refine Le ?_; rintro _ _ _ rfl; refine Va 9 ?_; refine Vgl 1023 ?_; refine Lp ?_; refine Va 10 ?_; refine A_gq (m' := 2047) rfl rfl rfl rfl rfl rfl (Q_eqI eqID rfl rfl rfl rfl rfl) rfl (by decide +kernel) ?_; refine Va 11 ?_; refine A_q (m' := 4095) rfl rfl rfl (Q_pick_t rfl rfl rfl) rfl (by decide +kernel) ?_; refine A_done (by decide +kernel) ?_; refine then_n ?_; refine Wc ?_ ?_ <;> intro c5_6 <;> (first | simp [*] at c5_6; done | try simp at c5_6); refine WP_skip ?_; refine then_n ?_; refine WP_seq ?_; refine R_draw (n := 13) mixed rfl ?_; refine Va 1 ?_; refine Vm 2 ?_; refine Va 2 ?_; refine Vm 6 ?_; refine Va 3 ?_; refine A_q (m' := 14) rfl rfl rfl (Q_slTo rfl rfl (elm rfl) rfl (by omega)) rfl (by decide +kernel) ?_; refine Va 5 ?_; refine A_loadp (m' := 46) rfl rfl rfl rfl rfl rfl (by decide +kernel) ?_; refine Lp ?_; refine Va 8 ?_; refine A_qp (m' := 302) rfl rfl rfl (Q_move rfl rfl) rfl (by decide +kernel) ?_; refine Va 9 ?_; refine A_qp (m' := 814) rfl rfl rfl (Q_move rfl rfl) rfl (by decide +kernel) ?_; refine Va 10 ?_; refine A_qp (m' := 1838) rfl rfl rfl (Q_slFrom rfl rfl (elm rfl) rfl (by omega)) rfl (by decide +kernel) ?_; refine A_two 0 6 (mi := 1839) (mj := 1902) rfl rfl (by decide +kernel) rfl rfl ?_ ?_; (focus (refine T_at rfl ?_; refine T_cO rfl rfl rfl (C_buildSlice rfl (elm rfl) (zer rfl) rfl rfl rfl rfl ?_); intro b5_7; refine A_two 4 6 (mi := 1855) (mj := 1903) rfl rfl (by decide +kernel) rfl rfl ?_ ?_; (focus (refine T_at rfl ?_; refine T_wO rfl rfl rfl rfl (W_appS [] _ (OS.lit0 _ _ _ _ _) ‹_› rfl rfl rfl rfl rfl rfl (elm rfl) (zer rfl) rfl rfl (by (try simp only [lA]); omega) (by (try simp only [lA]); omega) ?_); rintro p5_8 q5_8 m5_8 o5_8; refine Va 6 ?_; refine A_c (m' := 1919) rfl rfl rfl rfl (by decide +kernel) (C_buildSlice rfl (elm rfl) (zer rfl) rfl ⟨_, _, _, rfl, rfl, rfl, rfl, rfl, rfl⟩ rfl rfl ?_); intro b5_9; refine Va 7 ?_; refine A_w (m' := 2047) rfl rfl rfl rfl rfl (by decide +kernel) (W_app1 [] _ o5_8 rfl rfl rfl rfl rfl rfl (elm rfl) (zer rfl) rfl rfl rfl rfl rfl (by (try simp only [lA]); omega) (by (try simp only [lA]); omega) ?_); rintro p5_10 q5_10 m5_10 o5_10; refine Va 11 ?_; refine A_w (m' := 4095) rfl rfl rfl rfl rfl (by decide +kernel) (W_appS [] _ o5_10 ‹_› rfl rfl rfl rfl rfl rfl (elm rfl) (zer rfl) rfl rfl (by (try simp only [lA]); omega) (by (try simp only [lA]); omega) ?_); rintro p5_11 q5_11 m5_11 o5_11; refine Va 12 ?_; refine Vs 8191 ?_; refine A_done (by decide +kernel) ?_; refine then_n ?_; refine WP_ret ?_)); rotate_left 1; (focus (refine T_at rfl ?_; refine T_cO rfl rfl rfl (C_buildSlice rfl (elm rfl) (zer rfl) rfl ⟨_, _, _, rfl, rfl, rfl, rfl, rfl, rfl⟩ rfl rfl ?_); intro b5_12; refine Va 4 ?_; refine A_w (m' := 1919) rfl rfl rfl rfl rfl (by decide +kernel) (W_appS [_] _ (OS.lit0 _ _ _ _ _) ‹_› rfl rfl rfl rfl rfl rfl (elm rfl) (zer rfl) rfl rfl (by (try simp only [lA]); omega) (by (try simp only [lA]); omega) ?_); rintro p5_13 q5_13 m5_13 o5_13; refine Va 7 ?_; refine A_w (m' := 2047) rfl rfl rfl rfl rfl (by decide +kernel) (W_app1 [] _ o5_13 rfl rfl rfl rfl rfl rfl (elm rfl) (zer rfl) rfl rfl rfl rfl rfl (by (try simp only [lA]); omega) (by (try simp only [lA]); omega) ?_); rintro p5_14 q5_14 m5_14 o5_14; refine Va 11 ?_; refine A_w (m' := 4095) rfl rfl rfl rfl rfl (by decide +kernel) (W_appS [] _ o5_14 ‹_› rfl rfl rfl rfl rfl rfl (elm rfl) (zer rfl) rfl rfl (by (try simp only [lA]); omega) (by (try simp only [lA]); omega) ?_); rintro p5_15 q5_15 m5_15 o5_15; refine Va 12 ?_; refine Vs 8191 ?_; refine A_done (by decide +kernel) ?_; refine then_n ?_; refine WP_ret ?_)); rotate_left 1)); rotate_left 2; (focus (refine T_at rfl ?_; refine T_cO rfl rfl rfl (C_buildSlice rfl (elm rfl) (zer rfl) rfl ⟨_, _, _, rfl, rfl, rfl, rfl, rfl, rfl⟩ rfl rfl ?_); intro b5_16; refine Va 0 ?_; refine A_c (m' := 1903) rfl rfl rfl rfl (by decide +kernel) (C_buildSlice rfl (elm rfl) (zer rfl) rfl rfl rfl rfl ?_); intro b5_17; refine Va 4 ?_; refine A_w (m' := 1919) rfl rfl rfl rfl rfl (by decide +kernel) (W_appS [] _ (OS.lit0 _ _ _ _ _) ‹_› rfl rfl rfl rfl rfl rfl (elm rfl) (zer rfl) rfl rfl (by (try simp only [lA]); omega) (by (try simp only [lA]); omega) ?_); rintro p5_18 q5_18 m5_18 o5_18; refine Va 7 ?_; refine A_w (m' := 2047) rfl rfl rfl rfl rfl (by decide +kernel) (W_app1b (y := (_, _)) [] _ o5_18 rfl rfl rfl rfl rfl rfl (elm rfl) (zer rfl) rfl rfl rfl rfl rfl (by (try simp only [lA]); omega) (by (try simp only [lA]); omega) ?_); rintro p5_19 q5_19 m5_19 o5_19; refine Va 11 ?_; refine A_w (m' := 4095) rfl rfl rfl rfl rfl (by decide +kernel) (W_appS [] _ o5_19 ‹_› rfl rfl rfl rfl rfl rfl (elm rfl) (zer rfl) rfl rfl (by (try simp only [lA]); omega) (by (try simp only [lA]); omega) ?_); rintro p5_20 q5_20 m5_20 o5_20; refine Va 12 ?_; refine Vs 8191 ?_; refine A_done (by decide +kernel) ?_; refine then_n ?_; refine WP_ret ?_)); rotate_left 1))
    all_goals rw [hr]
    all_goals refine pretKM [] _ _ rfl (.inl rfl) rfl ⟨_, _, rfl, rfl, rfl⟩ fun h' hl' hm' => ?_
    all_goals exact ⟨_, _, rfl, OS.sl ‹_› hl' IDC_mono hm' (by simp only [List.nil_append, List.length_append, List.length_cons, List.length_nil]; omega), (OS.cap ‹_›).2⟩
  · have hge : k = l.length := by omega
    subst hge
    have hr := putI_end ht
    have hT := hs.toV hc (u := l.length) (by simp)
    have hF := hs.fromV hc (u := l.length) (by simp)
    have hlen : ([] ++ l : List ID).length = l.length := rfl
    have hTl : (List.take l.length l).length = l.length := by rw [List.length_take]; omega
    have hFl : (List.drop l.length l).length ≤ l.length := by rw [List.length_drop]; omega
    (focus (refine WP_seq ?_; refine WP_seq ?_; refine R_draw (n := 13) mixed rfl ?_; refine Va 0 ?_; refine Vm 1 ?_; refine Va 1 ?_; refine Vm 3 ?_; refine Va 2 ?_; refine A_q (m' := 7) rfl rfl rfl (Q_len rfl rfl rfl rfl rfl rfl) rfl (by decide +kernel) ?_; refine Va 3 ?_; refine A_q (m' := 15) rfl rfl rfl (Q_cmp rfl rfl rfl rfl) rfl (by decide +kernel) ?_; refine Va 4 ?_; refine Vm 31 ?_; refine Va 5 ?_; refine Vgs ?_ ?_ <;> intro c6_1 <;> (first | simp [*] at c6_1; done | try simp at c6_1); refine Va 5 ?_; refine Vn 63 ?_; refine Va 6 ?_; refine Vn 127 ?_; refine Va 7 ?_; refine Vn 255 ?_; refine Va 8 ?_; refine Vn 511 ?_; refine Va 9 ?_; refine Vn 1023 ?_; refine Va 10 ?_; refine Vn 2047 ?_; refine Va 11 ?_; refine Vn 4095 ?_; refine Va 12 ?_; refine A_q (m' := 8191) rfl rfl rfl (Q_pick_f rfl rfl rfl) rfl (by decide +kernel) ?_; refine A_done (by decide +kernel) ?_; refine then_n ?_; refine cond_f rfl ?_; refine WP_exit ?_; refine then_e ?_; refine roundF_e ?_; refine block_e ?_; refine then_n ?_; refine WP_seq ?_; refine WP_seq ?_; refine R_draw (n := 12) mixed rfl ?_; refine Va 0 ?_; refine Vm 1 ?_; refine Va 1 ?_; refine Vm 3 ?_; refine Va 2 ?_; refine A_q (m' := 7) rfl rfl rfl (Q_len rfl rfl rfl rfl rfl rfl) rfl (by decide +kernel) ?_; refine Va 3 ?_; refine A_q (m' := 15) rfl rfl rfl (Q_cmp rfl rfl rfl rfl) rfl (by decide +kernel) ?_; refine Va 4 ?_; refine Vm 31 ?_; refine Va 5 ?_; refine Vgs ?_ ?_ <;> intro c6_2 <;> (first | simp [*] at c6_2; done | try simp at c6_2); refine Va 5 ?_; refine Vn 63 ?_; refine Va 6 ?_; refine Vn 127 ?_; refine Va 7 ?_; refine Vn 255 ?_; refine Va 8 ?_; refine Vn 511 ?_; refine Va 9 ?_; refine Vn 1023 ?_; refine Va 10 ?_; refine Vn 2047 ?_; refine Va 11 ?_; refine A_q (m' := 4095) rfl rfl rfl (Q_pick_f rfl rfl rfl) rfl (by decide +kernel) ?_; refine A_done (by decide +kernel) ?_; refine then_n ?_; refine cond_f rfl ?_; refine WP_skip ?_; refine then_n ?_; refine WP_seq ?_; refine R_draw (n := 13) mixed rfl ?_; refine Va 1 ?_; refine Vm 2 ?_; refine Va 2 ?_; refine Vm 6 ?_; refine Va 3 ?_; refine A_q (m' := 14) rfl rfl rfl (Q_slTo rfl rfl (elm rfl) rfl (by omega)) rfl (by decide +kernel) ?_; refine Va 5 ?_; refine A_loadp (m' := 46) rfl rfl rfl rfl rfl rfl (by decide +kernel) ?_; refine Lp ?_; refine Va 8 ?_; refine A_qp (m' := 302) rfl rfl rfl (Q_move rfl rfl) rfl (by decide +kernel) ?_; refine Va 9 ?_; refine A_qp (m' := 814) rfl rfl rfl (Q_move rfl rfl) rfl (by decide +kernel) ?_; refine Va 10 ?_; refine A_qp (m' := 1838) rfl rfl rfl (Q_slFrom rfl rfl (elm rfl) rfl (by omega)) rfl (by decide +kernel) ?_; refine A_two 0 6 (mi := 1839) (mj := 1902) rfl rfl (by decide +kernel) rfl rfl ?_ ?_; (focus (refine T_at rfl ?_; refine T_cO rfl rfl rfl (C_buildSlice rfl (elm rfl) (zer rfl) rfl rfl rfl rfl ?_); intro b6_3; refine A_two 4 6 (mi := 1855) (mj := 1903) rfl rfl (by decide +kernel) rfl rfl ?_ ?_; (focus (refine T_at rfl ?_; refine T_wO rfl rfl rfl rfl (W_appS [] _ (OS.lit0 _ _ _ _ _) ‹_› rfl rfl rfl rfl rfl rfl (elm rfl) (zer rfl) rfl rfl (by (try simp only [lA]); omega) (by (try simp only [lA]); omega) ?_); rintro p6_4 q6_4 m6_4 o6_4; refine Va 6 ?_; refine A_c (m' := 1919) rfl rfl rfl rfl (by decide +kernel) (C_buildSlice rfl (elm rfl) (zer rfl) rfl ⟨_, _, _, rfl, rfl, rfl, rfl, rfl, rfl⟩ rfl rfl ?_); intro b6_5; refine Va 7 ?_; refine A_w (m' := 2047) rfl rfl rfl rfl rfl (by decide +kernel) (W_app1 [] _ o6_4 rfl rfl rfl rfl rfl rfl (elm rfl) (zer rfl) rfl rfl rfl rfl rfl (by (try simp only [lA]); omega) (by (try simp only [lA]); omega) ?_); rintro p6_6 q6_6 m6_6 o6_6; refine Va 11 ?_; refine A_w (m' := 4095) rfl rfl rfl rfl rfl (by decide +kernel) (W_appS [] _ o6_6 ‹_› rfl rfl rfl rfl rfl rfl (elm rfl) (zer rfl) rfl rfl (by (try simp only [lA]); omega) (by (try simp only [lA]); omega) ?_); rintro p6_7 q6_7 m6_7 o6_7; refine Va 12 ?_; refine Vs 8191 ?_; refine A_done (by decide +kernel) ?_; refine then_n ?_; refine WP_ret ?_)); rotate_left 1; (focus (refine T_at rfl ?_; refine T_cO rfl rfl rfl (C_buildSlice rfl (elm rfl) (zer rfl) rfl ⟨_, _, _, rfl, rfl, rfl, rfl, rfl, rfl⟩ rfl rfl ?_); intro b6_8; refine Va 4 ?_; refine A_w (m' := 1919) rfl rfl rfl rfl rfl (by decide +kernel) (W_appS [_] _ (OS.lit0 _ _ _ _ _) ‹_› rfl rfl rfl rfl rfl rfl (elm rfl) (zer rfl) rfl rfl (by (try simp only [lA]); omega) (by (try simp only [lA]); omega) ?_); rintro p6_9 q6_9 m6_9 o6_9; refine Va 7 ?_; refine A_w (m' := 2047) rfl rfl rfl rfl rfl (by decide +kernel) (W_app1 [] _ o6_9 rfl rfl rfl rfl rfl rfl (elm rfl) (zer rfl) rfl rfl rfl rfl rfl (by (try simp only [lA]); omega) (by (try simp only [lA]); omega) ?_); rintro p6_10 q6_10 m6_10 o6_10; refine Va 11 ?_; refine A_w (m' := 4095) rfl rfl rfl rfl rfl (by decide +kernel) (W_appS [] _ o6_10 ‹_› rfl rfl rfl rfl rfl rfl (elm rfl) (zer rfl) rfl rfl (by (try simp only [lA]); omega) (by (try simp only [lA]); omega) ?_); rintro p6_11 q6_11 m6_11 o6_11; refine Va 12 ?_; refine Vs 8191 ?_; refine A_done (by decide +kernel) ?_; refine then_n ?_; refine WP_ret ?_)); rotate_left 1)); rotate_left 2; (focus (refine T_at rfl ?_; refine T_cO rfl rfl rfl (C_buildSlice rfl (elm rfl) (zer rfl) rfl ⟨_, _, _, rfl, rfl, rfl, rfl, rfl, rfl⟩ rfl rfl ?_); intro b6_12; refine Va 0 ?_; refine A_c (m' := 1903) rfl rfl rfl rfl (by decide +kernel) (C_buildSlice rfl (elm rfl) (zer rfl) rfl rfl rfl rfl ?_); intro b6_13; refine Va 4 ?_; refine A_w (m' := 1919) rfl rfl rfl rfl rfl (by decide +kernel) (W_appS [] _ (OS.lit0 _ _ _ _ _) ‹_› rfl rfl rfl rfl rfl rfl (elm rfl) (zer rfl) rfl rfl (by (try simp only [lA]); omega) (by (try simp only [lA]); omega) ?_); rintro p6_14 q6_14 m6_14 o6_14; refine Va 7 ?_; refine A_w (m' := 2047) rfl rfl rfl rfl rfl (by decide +kernel) (W_app1b (y := (_, _)) [] _ o6_14 rfl rfl rfl rfl rfl rfl (elm rfl) (zer rfl) rfl rfl rfl rfl rfl (by (try simp only [lA]); omega) (by (try simp only [lA]); omega) ?_); rintro p6_15 q6_15 m6_15 o6_15; refine Va 11 ?_; refine A_w (m' := 4095) rfl rfl rfl rfl rfl (by decide +kernel) (W_appS [] _ o6_15 ‹_› rfl rfl rfl rfl rfl rfl (elm rfl) (zer rfl) rfl rfl (by (try simp only [lA]); omega) (by (try simp only [lA]); omega) ?_); rintro p6_16 q6_16 m6_16 o6_16; refine Va 12 ?_; refine Vs 8191 ?_; refine A_done (by decide +kernel) ?_; refine then_n ?_; refine WP_ret ?_)); rotate_left 1))
    all_goals rw [hr]
    all_goals refine pretKM [] _ _ rfl (.inl rfl) rfl ⟨_, _, rfl, rfl, rfl⟩ fun h' hl' hm' => ?_
    all_goals exact ⟨_, _, rfl, OS.sl ‹_› hl' IDC_mono hm' (by simp only [List.nil_append, List.length_append, List.length_cons, List.length_nil]; omega), (OS.cap ‹_›).2⟩
theorem refPut21_s {h : Frag} {p : Option Addr} {c : Nat} {l : List ID} {x : ID} (hs : SL h 2 IDC (.slice p l.length c) l) (hc : l.length ≤ c) (hb : l.length ≤ 2000000) : PSpec Tryz.prog 99 #[.slice p l.length c, .agg (idc x).toArray] h
    (fun h' v => ∃ p' c', v = .slice p' (putI l x).length c' ∧ SL h' 2 IDC (.slice p' (putI l x).length c') (putI l x) ∧ (putI l x).length ≤ c') := by
  obtain ⟨x1, x2⟩ := x
  refine pspec_of (vs := [.slice p l.length c, .agg (idc (x1, x2)).toArray]) Tryz.func99 Tryz.ntmps99 rfl rfl ?_
  (focus (refine Wr ?_; refine Tbx ?_; intro b0_1; refine Tm ?_; refine On ?_; refine Wr ?_; refine Tm ?_; refine On ?_; refine WP_seq ?_; refine WP_block ?_))
  (focus (refine WP_keepM [] [_] _ rfl ?_; rintro h1_k l1_k k1_k; have a1_k := at_of_keep k1_k; clear k1_k; replace hs := hs.up l1_k))
  (refine WP_loopC (α := Nat) [3, 0] (fun (k : Nat) => l.length - k) (fun (k : Nat) => [(5, .int .i64 k)]) (fun hh (k : Nat) => hh = h1_k ∧ k ≤ l.length ∧ putI l (x1, x2) = l.take k ++ putI (l.drop k) (x1, x2)) 0 ⟨_, _, rfl, ⟨_, _, rfl, rfl, rfl⟩, rfl⟩ (by repeat' first | exact trivial | refine ⟨rfl, ?_⟩) ?_ ?_)
  · exact ⟨rfl, Nat.zero_le _, by simp⟩
  rintro h1 k _ ⟨rfl, hk, ht⟩
  by_cases hlt : k < l.length
  · obtain ⟨⟨y1, y2⟩, ex⟩ := get_of hlt
    by_cases hm : cmpID (y1, y2) (x1, x2) < 0
    · (focus (refine WP_seq ?_; refine WP_seq ?_; refine R_draw (n := 13) mixed rfl ?_; refine Va 0 ?_; refine Vm 1 ?_; refine Va 1 ?_; refine Vm 3 ?_; refine Va 2 ?_; refine A_q (m' := 7) rfl rfl rfl (Q_len rfl rfl rfl rfl rfl rfl) rfl (by decide +kernel) ?_; refine Va 3 ?_; refine A_q (m' := 15) rfl rfl rfl (Q_cmp rfl rfl rfl rfl) rfl (by decide +kernel) ?_; refine Va 4 ?_; refine Vm 31 ?_; refine Va 5 ?_; refine Vgs ?_ ?_ <;> intro c3_1 <;> (first | simp [*] at c3_1; done | try simp at c3_1); refine Va 5 ?_; refine Vgm 63 ?_; refine Va 6 ?_; refine Vgm 127 ?_; refine Va 7 ?_; refine A_gq (m' := 255) rfl rfl rfl rfl rfl rfl (Q_indexS ‹_› ‹_› rfl rfl rfl (elm rfl) rfl) rfl (by decide +kernel) ?_; refine Va 8 ?_; refine Vgl 511 ?_; refine Le ?_; rintro _ _ _ rfl; refine Va 9 ?_; refine Vgl 1023 ?_; refine Lp ?_; refine Va 10 ?_; refine A_gc (m' := 2047) rfl rfl rfl rfl rfl rfl rfl (by decide +kernel) (C_callv (refCmp21_s _ (_, _) (_, _)) rfl rfl ⟨_, _, rfl, ⟨_, _, rfl, rfl, rfl⟩, rfl⟩ (cal rfl) ?_); refine Va 11 ?_; refine A_gq (m' := 4095) rfl rfl rfl rfl rfl rfl (Q_cmp rfl rfl rfl rfl) rfl (by decide +kernel) ?_; refine Va 12 ?_; refine A_q (m' := 8191) rfl rfl rfl (Q_pick_t rfl rfl rfl) rfl (by decide +kernel) ?_; refine A_done (by decide +kernel) ?_; refine then_n ?_; refine Wc ?_ ?_ <;> intro c3_3 <;> (first | simp [*] at c3_3; done | try simp at c3_3); refine WP_skip ?_; refine then_n ?_; refine WP_block ?_; refine R_region ?_; refine Tm ?_; refine Ta ?_; refine Tm ?_; refine OPS_nil ?_; refine block_n ?_))
      exact roundF_n (k + 1) (by omega) ⟨rfl, by omega, putI_lt ex hm ht⟩ (by repeat' first | exact sR _ | exact sA _ _ | exact sN _ | apply s2 | apply s1) (by repeat' first | exact trivial | refine ⟨rfl, ?_⟩)
    by_cases he : (y1, y2) = (x1, x2)
    · have hr := putI_eq ex hm he ht
      (focus (refine WP_seq ?_; refine WP_seq ?_; refine R_draw (n := 13) mixed rfl ?_; refine Va 0 ?_; refine Vm 1 ?_; refine Va 1 ?_; refine Vm 3 ?_; refine Va 2 ?_; refine A_q (m' := 7) rfl rfl rfl (Q_len rfl rfl rfl rfl rfl rfl) rfl (by decide +kernel) ?_; refine Va 3 ?_; refine A_q (m' := 15) rfl rfl rfl (Q_cmp rfl rfl rfl rfl) rfl (by decide +kernel) ?_; refine Va 4 ?_; refine Vm 31 ?_; refine Va 5 ?_; refine Vgs ?_ ?_ <;> intro c4_1 <;> (first | simp [*] at c4_1; done | try simp at c4_1); refine Va 5 ?_; refine Vgm 63 ?_; refine Va 6 ?_; refine Vgm 127 ?_; refine Va 7 ?_; refine A_gq (m' := 255) rfl rfl rfl rfl rfl rfl (Q_indexS ‹_› ‹_› rfl rfl rfl (elm rfl) rfl) rfl (by decide +kernel) ?_; refine Va 8 ?_; refine Vgl 511 ?_; refine Le ?_; rintro _ _ _ rfl; refine Va 9 ?_; refine Vgl 1023 ?_; refine Lp ?_; refine Va 10 ?_; refine A_gc (m' := 2047) rfl rfl rfl rfl rfl rfl rfl (by decide +kernel) (C_callv (refCmp21_s _ (_, _) (_, _)) rfl rfl ⟨_, _, rfl, ⟨_, _, rfl, rfl, rfl⟩, rfl⟩ (cal rfl) ?_); refine Va 11 ?_; refine A_gq (m' := 4095) rfl rfl rfl rfl rfl rfl (Q_cmp rfl rfl rfl rfl) rfl (by decide +kernel) ?_; refine Va 12 ?_; refine A_q (m' := 8191) rfl rfl rfl (Q_pick_t rfl rfl rfl) rfl (by decide +kernel) ?_; refine A_done (by decide +kernel) ?_; refine then_n ?_; refine Wc ?_ ?_ <;> intro c4_3 <;> (first | simp [*] at c4_3; done | try simp at c4_3); (focus (exfalso; omega)); (focus (refine WP_exit ?_; refine then_e ?_; refine roundF_e ?_; refine block_e ?_; refine then_n ?_; refine WP_seq ?_; refine WP_seq ?_; refine R_draw (n := 12) mixed rfl ?_; refine Va 0 ?_; refine Vm 1 ?_; refine Va 1 ?_; refine Vm 3 ?_; refine Va 2 ?_; refine A_q (m' := 7) rfl rfl rfl (Q_len rfl rfl rfl rfl rfl rfl) rfl (by decide +kernel) ?_; refine Va 3 ?_; refine A_q (m' := 15) rfl rfl rfl (Q_cmp rfl rfl rfl rfl) rfl (by decide +kernel) ?_; refine Va 4 ?_; refine Vm 31 ?_; refine Va 5 ?_; refine Vgs ?_ ?_ <;> intro c4_4 <;> (first | simp [*] at c4_4; done | try simp at c4_4); refine Va 5 ?_; refine Vgm 63 ?_; refine Va 6 ?_; refine Vgm 127 ?_; refine Va 7 ?_; refine A_gq (m' := 255) rfl rfl rfl rfl rfl rfl (Q_indexS ‹_› ‹_› rfl rfl rfl (elm rfl) rfl) rfl (by decide +kernel) ?_; refine Va 8 ?_; refine Vgl 511 ?_; refine Le ?_; rintro _ _ _ rfl; refine Va 9 ?_; refine Vgl 1023 ?_; refine Lp ?_; refine Va 10 ?_; refine A_gq (m' := 2047) rfl rfl rfl rfl rfl rfl (Q_eqI eqID rfl rfl rfl rfl rfl) rfl (by decide +kernel) ?_; refine Va 11 ?_; refine A_q (m' := 4095) rfl rfl rfl (Q_pick_t rfl rfl rfl) rfl (by decide +kernel) ?_; refine A_done (by decide +kernel) ?_; refine then_n ?_; refine Wc ?_ ?_ <;> intro c4_6 <;> (first | simp [*] at c4_6; done | try simp at c4_6); refine Wr ?_; refine Tm ?_; refine Tm ?_; refine On ?_; refine WP_ret ?_; refine then_r ?_)); rotate_left 1))
      rw [hr]
      all_goals refine pret (.inl rfl) rfl ⟨_, _, rfl, rfl, rfl⟩ ?_
      all_goals exact ⟨_, _, rfl, hs, hc⟩
    have hr := putI_ne ex hm he ht
    have hT := hs.toV hc (u := k) (by omega)
    have hF := hs.fromV hc (u := k) (by omega)
    have hlen : ([] ++ l : List ID).length = l.length := rfl
    have hTl : (List.take k l).length = k := by rw [List.length_take]; omega
    have hFl : (List.drop k l).length ≤ l.length := by rw [List.length_drop]; omega
    (focus (refine WP_seq ?_; refine WP_seq ?_; refine R_draw (n := 13) mixed rfl ?_; refine Va 0 ?_; refine Vm 1 ?_; refine Va 1 ?_; refine Vm 3 ?_; refine Va 2 ?_; refine A_q (m' := 7) rfl rfl rfl (Q_len rfl rfl rfl rfl rfl rfl) rfl (by decide +kernel) ?_; refine Va 3 ?_; refine A_q (m' := 15) rfl rfl rfl (Q_cmp rfl rfl rfl rfl) rfl (by decide +kernel) ?_; refine Va 4 ?_; refine Vm 31 ?_; refine Va 5 ?_; refine Vgs ?_ ?_ <;> intro c5_1 <;> (first | simp [*] at c5_1; done | try simp at c5_1); refine Va 5 ?_; refine Vgm 63 ?_; refine Va 6 ?_; refine Vgm 127 ?_; refine Va 7 ?_; refine A_gq (m' := 255) rfl rfl rfl rfl rfl rfl (Q_indexS ‹_› ‹_› rfl rfl rfl (elm rfl) rfl) rfl (by decide +kernel) ?_; refine Va 8 ?_; refine Vgl 511 ?_; refine Le ?_; rintro _ _ _ rfl; refine Va 9 ?_; refine Vgl 1023 ?_; refine Lp ?_; refine Va 10 ?_; refine A_gc (m' := 2047) rfl rfl rfl rfl rfl rfl rfl (by decide +kernel) (C_callv (refCmp21_s _ (_, _) (_, _)) rfl rfl ⟨_, _, rfl, ⟨_, _, rfl, rfl, rfl⟩, rfl⟩ (cal rfl) ?_); refine Va 11 ?_; refine A_gq (m' := 4095) rfl rfl rfl rfl rfl rfl (Q_cmp rfl rfl rfl rfl) rfl (by decide +kernel) ?_; refine Va 12 ?_; refine A_q (m' := 8191) rfl rfl rfl (Q_pick_t rfl rfl rfl) rfl (by decide +kernel) ?_; refine A_done (by decide +kernel) ?_; refine then_n ?_; refine Wc ?_ ?_ <;> intro c5_3 <;> (first | simp [*] at c5_3; done | try simp at c5_3); refine WP_exit ?_; refine then_e ?_; refine roundF_e ?_; refine block_e ?_; refine then_n ?_; refine WP_seq ?_; refine WP_seq ?_; refine R_draw (n := 12) mixed rfl ?_; refine Va 0 ?_; refine Vm 1 ?_; refine Va 1 ?_; refine Vm 3 ?_; refine Va 2 ?_; refine A_q (m' := 7) rfl rfl rfl (Q_len rfl rfl rfl rfl rfl rfl) rfl (by decide +kernel) ?_; refine Va 3 ?_; refine A_q (m' := 15) rfl rfl rfl (Q_cmp rfl rfl rfl rfl) rfl (by decide +kernel) ?_; refine Va 4 ?_; refine Vm 31 ?_; refine Va 5 ?_; refine Vgs ?_ ?_ <;> intro c5_4 <;> (first | simp [*] at c5_4; done | try simp at c5_4); refine Va 5 ?_; refine Vgm 63 ?_; refine Va 6 ?_; refine Vgm 127 ?_; refine Va 7 ?_; refine A_gq (m' := 255) rfl rfl rfl rfl rfl rfl (Q_indexS ‹_› ‹_› rfl rfl rfl (elm rfl) rfl) rfl (by decide +kernel) ?_; refine Va 8 ?_; refine Vgl 511 ?_; refine Le ?_; rintro _ _ _ rfl; refine Va 9 ?_; refine Vgl 1023 ?_; refine Lp ?_; refine Va 10 ?_; refine A_gq (m' := 2047) rfl rfl rfl rfl rfl rfl (Q_eqI eqID rfl rfl rfl rfl rfl) rfl (by decide +kernel) ?_; refine Va 11 ?_; refine A_q (m' := 4095) rfl rfl rfl (Q_pick_t rfl rfl rfl) rfl (by decide +kernel) ?_; refine A_done (by decide +kernel) ?_; refine then_n ?_; refine Wc ?_ ?_ <;> intro c5_6 <;> (first | simp [*] at c5_6; done | try simp at c5_6); refine WP_skip ?_; refine then_n ?_; refine WP_seq ?_; refine R_draw (n := 13) mixed rfl ?_; refine Va 1 ?_; refine Vm 2 ?_; refine Va 2 ?_; refine Vm 6 ?_; refine Va 3 ?_; refine A_q (m' := 14) rfl rfl rfl (Q_slTo rfl rfl (elm rfl) rfl (by omega)) rfl (by decide +kernel) ?_; refine Va 5 ?_; refine A_loadp (m' := 46) rfl rfl rfl rfl rfl rfl (by decide +kernel) ?_; refine Lp ?_; refine Va 8 ?_; refine A_qp (m' := 302) rfl rfl rfl (Q_move rfl rfl) rfl (by decide +kernel) ?_; refine Va 9 ?_; refine A_qp (m' := 814) rfl rfl rfl (Q_move rfl rfl) rfl (by decide +kernel) ?_; refine Va 10 ?_; refine A_qp (m' := 1838) rfl rfl rfl (Q_slFrom rfl rfl (elm rfl) rfl (by omega)) rfl (by decide +kernel) ?_; refine A_two 0 6 (mi := 1839) (mj := 1902) rfl rfl (by decide +kernel) rfl rfl ?_ ?_; (focus (refine T_at rfl ?_; refine T_cO rfl rfl rfl (C_buildSlice rfl (elm rfl) (zer rfl) rfl rfl rfl rfl ?_); intro b5_7; refine A_two 4 6 (mi := 1855) (mj := 1903) rfl rfl (by decide +kernel) rfl rfl ?_ ?_; (focus (refine T_at rfl ?_; refine T_wO rfl rfl rfl rfl (W_appS [] _ (OS.lit0 _ _ _ _ _) ‹_› rfl rfl rfl rfl rfl rfl (elm rfl) (zer rfl) rfl rfl (by (try simp only [lA]); omega) (by (try simp only [lA]); omega) ?_); rintro p5_8 q5_8 m5_8 o5_8; refine Va 6 ?_; refine A_c (m' := 1919) rfl rfl rfl rfl (by decide +kernel) (C_buildSlice rfl (elm rfl) (zer rfl) rfl ⟨_, _, _, rfl, rfl, rfl, rfl, rfl, rfl⟩ rfl rfl ?_); intro b5_9; refine Va 7 ?_; refine A_w (m' := 2047) rfl rfl rfl rfl rfl (by decide +kernel) (W_app1 [] _ o5_8 rfl rfl rfl rfl rfl rfl (elm rfl) (zer rfl) rfl rfl rfl rfl rfl (by (try simp only [lA]); omega) (by (try simp only [lA]); omega) ?_); rintro p5_10 q5_10 m5_10 o5_10; refine Va 11 ?_; refine A_w (m' := 4095) rfl rfl rfl rfl rfl (by decide +kernel) (W_appS [] _ o5_10 ‹_› rfl rfl rfl rfl rfl rfl (elm rfl) (zer rfl) rfl rfl (by (try simp only [lA]); omega) (by (try simp only [lA]); omega) ?_); rintro p5_11 q5_11 m5_11 o5_11; refine Va 12 ?_; refine Vs 8191 ?_; refine A_done (by decide +kernel) ?_; refine then_n ?_; refine WP_ret ?_)); rotate_left 1; (focus (refine T_at rfl ?_; refine T_cO rfl rfl rfl (C_buildSlice rfl (elm rfl) (zer rfl) rfl ⟨_, _, _, rfl, rfl, rfl, rfl, rfl, rfl⟩ rfl rfl ?_); intro b5_12; refine Va 4 ?_; refine A_w (m' := 1919) rfl rfl rfl rfl rfl (by decide +kernel) (W_appS [_] _ (OS.lit0 _ _ _ _ _) ‹_› rfl rfl rfl rfl rfl rfl (elm rfl) (zer rfl) rfl rfl (by (try simp only [lA]); omega) (by (try simp only [lA]); omega) ?_); rintro p5_13 q5_13 m5_13 o5_13; refine Va 7 ?_; refine A_w (m' := 2047) rfl rfl rfl rfl rfl (by decide +kernel) (W_app1 [] _ o5_13 rfl rfl rfl rfl rfl rfl (elm rfl) (zer rfl) rfl rfl rfl rfl rfl (by (try simp only [lA]); omega) (by (try simp only [lA]); omega) ?_); rintro p5_14 q5_14 m5_14 o5_14; refine Va 11 ?_; refine A_w (m' := 4095) rfl rfl rfl rfl rfl (by decide +kernel) (W_appS [] _ o5_14 ‹_› rfl rfl rfl rfl rfl rfl (elm rfl) (zer rfl) rfl rfl (by (try simp only [lA]); omega) (by (try simp only [lA]); omega) ?_); rintro p5_15 q5_15 m5_15 o5_15; refine Va 12 ?_; refine Vs 8191 ?_; refine A_done (by decide +kernel) ?_; refine then_n ?_; refine WP_ret ?_)); rotate_left 1)); rotate_left 2; (focus (refine T_at rfl ?_; refine T_cO rfl rfl rfl (C_buildSlice rfl (elm rfl) (zer rfl) rfl ⟨_, _, _, rfl, rfl, rfl, rfl, rfl, rfl⟩ rfl rfl ?_); intro b5_16; refine Va 0 ?_; refine A_c (m' := 1903) rfl rfl rfl rfl (by decide +kernel) (C_buildSlice rfl (elm rfl) (zer rfl) rfl rfl rfl rfl ?_); intro b5_17; refine Va 4 ?_; refine A_w (m' := 1919) rfl rfl rfl rfl rfl (by decide +kernel) (W_appS [] _ (OS.lit0 _ _ _ _ _) ‹_› rfl rfl rfl rfl rfl rfl (elm rfl) (zer rfl) rfl rfl (by (try simp only [lA]); omega) (by (try simp only [lA]); omega) ?_); rintro p5_18 q5_18 m5_18 o5_18; refine Va 7 ?_; refine A_w (m' := 2047) rfl rfl rfl rfl rfl (by decide +kernel) (W_app1b (y := (_, _)) [] _ o5_18 rfl rfl rfl rfl rfl rfl (elm rfl) (zer rfl) rfl rfl rfl rfl rfl (by (try simp only [lA]); omega) (by (try simp only [lA]); omega) ?_); rintro p5_19 q5_19 m5_19 o5_19; refine Va 11 ?_; refine A_w (m' := 4095) rfl rfl rfl rfl rfl (by decide +kernel) (W_appS [] _ o5_19 ‹_› rfl rfl rfl rfl rfl rfl (elm rfl) (zer rfl) rfl rfl (by (try simp only [lA]); omega) (by (try simp only [lA]); omega) ?_); rintro p5_20 q5_20 m5_20 o5_20; refine Va 12 ?_; refine Vs 8191 ?_; refine A_done (by decide +kernel) ?_; refine then_n ?_; refine WP_ret ?_)); rotate_left 1))
    all_goals rw [hr]
    all_goals refine pretKM [] _ _ rfl (.inl rfl) rfl ⟨_, _, rfl, rfl, rfl⟩ fun h' hl' hm' => ?_
    all_goals exact ⟨_, _, rfl, OS.sl ‹_› hl' IDC_mono hm' (by simp only [List.nil_append, List.length_append, List.length_cons, List.length_nil]; omega), (OS.cap ‹_›).2⟩
  · have hge : k = l.length := by omega
    subst hge
    have hr := putI_end ht
    have hT := hs.toV hc (u := l.length) (by simp)
    have hF := hs.fromV hc (u := l.length) (by simp)
    have hlen : ([] ++ l : List ID).length = l.length := rfl
    have hTl : (List.take l.length l).length = l.length := by rw [List.length_take]; omega
    have hFl : (List.drop l.length l).length ≤ l.length := by rw [List.length_drop]; omega
    (focus (refine WP_seq ?_; refine WP_seq ?_; refine R_draw (n := 13) mixed rfl ?_; refine Va 0 ?_; refine Vm 1 ?_; refine Va 1 ?_; refine Vm 3 ?_; refine Va 2 ?_; refine A_q (m' := 7) rfl rfl rfl (Q_len rfl rfl rfl rfl rfl rfl) rfl (by decide +kernel) ?_; refine Va 3 ?_; refine A_q (m' := 15) rfl rfl rfl (Q_cmp rfl rfl rfl rfl) rfl (by decide +kernel) ?_; refine Va 4 ?_; refine Vm 31 ?_; refine Va 5 ?_; refine Vgs ?_ ?_ <;> intro c6_1 <;> (first | simp [*] at c6_1; done | try simp at c6_1); refine Va 5 ?_; refine Vn 63 ?_; refine Va 6 ?_; refine Vn 127 ?_; refine Va 7 ?_; refine Vn 255 ?_; refine Va 8 ?_; refine Vn 511 ?_; refine Va 9 ?_; refine Vn 1023 ?_; refine Va 10 ?_; refine Vn 2047 ?_; refine Va 11 ?_; refine Vn 4095 ?_; refine Va 12 ?_; refine A_q (m' := 8191) rfl rfl rfl (Q_pick_f rfl rfl rfl) rfl (by decide +kernel) ?_; refine A_done (by decide +kernel) ?_; refine then_n ?_; refine cond_f rfl ?_; refine WP_exit ?_; refine then_e ?_; refine roundF_e ?_; refine block_e ?_; refine then_n ?_; refine WP_seq ?_; refine WP_seq ?_; refine R_draw (n := 12) mixed rfl ?_; refine Va 0 ?_; refine Vm 1 ?_; refine Va 1 ?_; refine Vm 3 ?_; refine Va 2 ?_; refine A_q (m' := 7) rfl rfl rfl (Q_len rfl rfl rfl rfl rfl rfl) rfl (by decide +kernel) ?_; refine Va 3 ?_; refine A_q (m' := 15) rfl rfl rfl (Q_cmp rfl rfl rfl rfl) rfl (by decide +kernel) ?_; refine Va 4 ?_; refine Vm 31 ?_; refine Va 5 ?_; refine Vgs ?_ ?_ <;> intro c6_2 <;> (first | simp [*] at c6_2; done | try simp at c6_2); refine Va 5 ?_; refine Vn 63 ?_; refine Va 6 ?_; refine Vn 127 ?_; refine Va 7 ?_; refine Vn 255 ?_; refine Va 8 ?_; refine Vn 511 ?_; refine Va 9 ?_; refine Vn 1023 ?_; refine Va 10 ?_; refine Vn 2047 ?_; refine Va 11 ?_; refine A_q (m' := 4095) rfl rfl rfl (Q_pick_f rfl rfl rfl) rfl (by decide +kernel) ?_; refine A_done (by decide +kernel) ?_; refine then_n ?_; refine cond_f rfl ?_; refine WP_skip ?_; refine then_n ?_; refine WP_seq ?_; refine R_draw (n := 13) mixed rfl ?_; refine Va 1 ?_; refine Vm 2 ?_; refine Va 2 ?_; refine Vm 6 ?_; refine Va 3 ?_; refine A_q (m' := 14) rfl rfl rfl (Q_slTo rfl rfl (elm rfl) rfl (by omega)) rfl (by decide +kernel) ?_; refine Va 5 ?_; refine A_loadp (m' := 46) rfl rfl rfl rfl rfl rfl (by decide +kernel) ?_; refine Lp ?_; refine Va 8 ?_; refine A_qp (m' := 302) rfl rfl rfl (Q_move rfl rfl) rfl (by decide +kernel) ?_; refine Va 9 ?_; refine A_qp (m' := 814) rfl rfl rfl (Q_move rfl rfl) rfl (by decide +kernel) ?_; refine Va 10 ?_; refine A_qp (m' := 1838) rfl rfl rfl (Q_slFrom rfl rfl (elm rfl) rfl (by omega)) rfl (by decide +kernel) ?_; refine A_two 0 6 (mi := 1839) (mj := 1902) rfl rfl (by decide +kernel) rfl rfl ?_ ?_; (focus (refine T_at rfl ?_; refine T_cO rfl rfl rfl (C_buildSlice rfl (elm rfl) (zer rfl) rfl rfl rfl rfl ?_); intro b6_3; refine A_two 4 6 (mi := 1855) (mj := 1903) rfl rfl (by decide +kernel) rfl rfl ?_ ?_; (focus (refine T_at rfl ?_; refine T_wO rfl rfl rfl rfl (W_appS [] _ (OS.lit0 _ _ _ _ _) ‹_› rfl rfl rfl rfl rfl rfl (elm rfl) (zer rfl) rfl rfl (by (try simp only [lA]); omega) (by (try simp only [lA]); omega) ?_); rintro p6_4 q6_4 m6_4 o6_4; refine Va 6 ?_; refine A_c (m' := 1919) rfl rfl rfl rfl (by decide +kernel) (C_buildSlice rfl (elm rfl) (zer rfl) rfl ⟨_, _, _, rfl, rfl, rfl, rfl, rfl, rfl⟩ rfl rfl ?_); intro b6_5; refine Va 7 ?_; refine A_w (m' := 2047) rfl rfl rfl rfl rfl (by decide +kernel) (W_app1 [] _ o6_4 rfl rfl rfl rfl rfl rfl (elm rfl) (zer rfl) rfl rfl rfl rfl rfl (by (try simp only [lA]); omega) (by (try simp only [lA]); omega) ?_); rintro p6_6 q6_6 m6_6 o6_6; refine Va 11 ?_; refine A_w (m' := 4095) rfl rfl rfl rfl rfl (by decide +kernel) (W_appS [] _ o6_6 ‹_› rfl rfl rfl rfl rfl rfl (elm rfl) (zer rfl) rfl rfl (by (try simp only [lA]); omega) (by (try simp only [lA]); omega) ?_); rintro p6_7 q6_7 m6_7 o6_7; refine Va 12 ?_; refine Vs 8191 ?_; refine A_done (by decide +kernel) ?_; refine then_n ?_; refine WP_ret ?_)); rotate_left 1; (focus (refine T_at rfl ?_; refine T_cO rfl rfl rfl (C_buildSlice rfl (elm rfl) (zer rfl) rfl ⟨_, _, _, rfl, rfl, rfl, rfl, rfl, rfl⟩ rfl rfl ?_); intro b6_8; refine Va 4 ?_; refine A_w (m' := 1919) rfl rfl rfl rfl rfl (by decide +kernel) (W_appS [_] _ (OS.lit0 _ _ _ _ _) ‹_› rfl rfl rfl rfl rfl rfl (elm rfl) (zer rfl) rfl rfl (by (try simp only [lA]); omega) (by (try simp only [lA]); omega) ?_); rintro p6_9 q6_9 m6_9 o6_9; refine Va 7 ?_; refine A_w (m' := 2047) rfl rfl rfl rfl rfl (by decide +kernel) (W_app1 [] _ o6_9 rfl rfl rfl rfl rfl rfl (elm rfl) (zer rfl) rfl rfl rfl rfl rfl (by (try simp only [lA]); omega) (by (try simp only [lA]); omega) ?_); rintro p6_10 q6_10 m6_10 o6_10; refine Va 11 ?_; refine A_w (m' := 4095) rfl rfl rfl rfl rfl (by decide +kernel) (W_appS [] _ o6_10 ‹_› rfl rfl rfl rfl rfl rfl (elm rfl) (zer rfl) rfl rfl (by (try simp only [lA]); omega) (by (try simp only [lA]); omega) ?_); rintro p6_11 q6_11 m6_11 o6_11; refine Va 12 ?_; refine Vs 8191 ?_; refine A_done (by decide +kernel) ?_; refine then_n ?_; refine WP_ret ?_)); rotate_left 1)); rotate_left 2; (focus (refine T_at rfl ?_; refine T_cO rfl rfl rfl (C_buildSlice rfl (elm rfl) (zer rfl) rfl ⟨_, _, _, rfl, rfl, rfl, rfl, rfl, rfl⟩ rfl rfl ?_); intro b6_12; refine Va 0 ?_; refine A_c (m' := 1903) rfl rfl rfl rfl (by decide +kernel) (C_buildSlice rfl (elm rfl) (zer rfl) rfl rfl rfl rfl ?_); intro b6_13; refine Va 4 ?_; refine A_w (m' := 1919) rfl rfl rfl rfl rfl (by decide +kernel) (W_appS [] _ (OS.lit0 _ _ _ _ _) ‹_› rfl rfl rfl rfl rfl rfl (elm rfl) (zer rfl) rfl rfl (by (try simp only [lA]); omega) (by (try simp only [lA]); omega) ?_); rintro p6_14 q6_14 m6_14 o6_14; refine Va 7 ?_; refine A_w (m' := 2047) rfl rfl rfl rfl rfl (by decide +kernel) (W_app1b (y := (_, _)) [] _ o6_14 rfl rfl rfl rfl rfl rfl (elm rfl) (zer rfl) rfl rfl rfl rfl rfl (by (try simp only [lA]); omega) (by (try simp only [lA]); omega) ?_); rintro p6_15 q6_15 m6_15 o6_15; refine Va 11 ?_; refine A_w (m' := 4095) rfl rfl rfl rfl rfl (by decide +kernel) (W_appS [] _ o6_15 ‹_› rfl rfl rfl rfl rfl rfl (elm rfl) (zer rfl) rfl rfl (by (try simp only [lA]); omega) (by (try simp only [lA]); omega) ?_); rintro p6_16 q6_16 m6_16 o6_16; refine Va 12 ?_; refine Vs 8191 ?_; refine A_done (by decide +kernel) ?_; refine then_n ?_; refine WP_ret ?_)); rotate_left 1))
    all_goals rw [hr]
    all_goals refine pretKM [] _ _ rfl (.inl rfl) rfl ⟨_, _, rfl, rfl, rfl⟩ fun h' hl' hm' => ?_
    all_goals exact ⟨_, _, rfl, OS.sl ‹_› hl' IDC_mono hm' (by simp only [List.nil_append, List.length_append, List.length_cons, List.length_nil]; omega), (OS.cap ‹_›).2⟩
end Go.Proofs.YtfhoecgiahpddaaGreat
/-
  CONTRACTS: the reference's sets of identities (refmeshref21.Set, Minus).
-/
set_option linter.all false
namespace Go.Proofs.YtfhoecgiahpddaaGreat
open Go.Mesh Go.RowKit
set_option maxRecDepth 100000
set_option linter.unusedVariables false
set_option maxHeartbeats 4000000
attribute [local irreducible] WP OPS ANY ANYo LG LV FSpec PSpec QOP OPc OPw thenQ blockQ roundQ roundF retQ retM Rd At SLB OS cmpI orI cmpID namedB valB nodeB kindB validG valAux idxI findG zeroV viewOf vwAt idxOf recv flyB scionOf moveOf numberedOf idOf valueOf mget mput localB carriedB msgB sizesB smallV fewB stubOf followF followOf flOf flightsOf flPre setL minusL compactL putI mergeN insN insAll unionR NMap Coll retN bodyS GMap Dfs refsV refsOf reachL movedOf movedG graphParts graphR isMove flightIDs mailIDs viewIDs rawRoots rootsR refFl refMoved
theorem setL_take {l : List ID} {k : Nat} {x : ID} (hx : l[k]? = some x) : setL (l.take (k + 1)) = putI (setL (l.take k)) x := by
  simp [setL, List.take_add_one, hx]
theorem setL_nil : setL [] = [] := by simp [setL]
/-- what is taken away -/
def keepL (ys xs : List ID) : List ID := xs.filter fun x => !decide (x ∈ ys)
theorem keepL_take {ys l : List ID} {k : Nat} {x : ID} (hx : l[k]? = some x) : setL (keepL ys (l.take (k + 1))) = if x ∈ ys then setL (keepL ys (l.take k)) else putI (setL (keepL ys (l.take k))) x := by
  by_cases h : x ∈ ys <;> simp [keepL, setL, List.take_add_one, hx, h]
theorem keepL_nil (ys : List ID) : setL (keepL ys []) = [] := by simp [keepL, setL]
theorem keepL_len (ys xs : List ID) : (keepL ys xs).length ≤ xs.length := List.length_filter_le _ _
theorem keepL_minus (xs ys : List ID) : setL (keepL ys xs) = minusL xs ys := by
  rw [minusL]
  refine SI_unique (SI_setL _) (SI_filter (SI_setL _)) fun z => ?_
  rw [mem_setL, keepL, List.mem_filter, List.mem_filter, mem_setL]
attribute [local irreducible] keepL
theorem refSet_s {h : Frag} {a : Value} {xs : List ID} (hs : SL h 2 IDC a xs) (hb : xs.length ≤ 1000000) : PSpec Tryz.prog 53 #[a] h
    (fun h' v => ∃ p' c', v = .slice p' (setL xs).length c' ∧ SL h' 2 IDC (.slice p' (setL xs).length c') (setL xs) ∧ (setL xs).length ≤ c') := by
  obtain ⟨pv, cv, rfl⟩ := hs.slice
  refine pspec_of (vs := [.slice pv xs.length cv]) Tryz.func53 Tryz.ntmps53 rfl rfl ?_
  (focus (refine Wr ?_; refine Tm ?_; refine On ?_; refine Wr ?_; refine S_c rfl rfl rfl (C_buildSlice rfl (elm rfl) (zer rfl) rfl rfl rfl rfl ?_); intro b0_1; refine Tm ?_; refine On ?_; refine WP_seq ?_; refine Wr ?_; refine Tm ?_; refine On ?_; refine WP_block ?_))
  (refine WP_loopC (α := Nat × List ID × Option Addr × Nat) [0] (fun (s : Nat × List ID × Option Addr × Nat) => xs.length - s.1) (fun (s : Nat × List ID × Option Addr × Nat) => [(4, .int .i64 (s.1 : Int)), (3, .slice s.2.2.1 s.2.1.length s.2.2.2)]) (fun hh (s : Nat × List ID × Option Addr × Nat) => le h hh ∧ s.1 ≤ xs.length ∧ s.2.1 = setL (xs.take s.1) ∧ SL hh 2 IDC (.slice s.2.2.1 s.2.1.length s.2.2.2) s.2.1 ∧ s.2.1.length ≤ s.2.2.2) (0, [], some ⟨b0_1, 0, none⟩, 0) ⟨_, _, rfl, rfl, rfl⟩ (by repeat' first | exact trivial | refine ⟨rfl, ?_⟩) ?_ ?_)
  · exact ⟨le_refl _, Nat.zero_le _, by rw [List.take_zero, setL_nil], SLB.nil _ _ _ _ _ _, Nat.le_refl _⟩
  rintro h1 ⟨k, out, p, c⟩ _ ⟨hl1, hk, ho, hO, hc⟩
  simp only at hk ho hO hc
  dsimp only
  (replace hs := hs.up hl1)
  have hol : out.length ≤ k := by rw [ho]; have := setL_length (xs.take k); rw [List.length_take] at this; omega
  by_cases hlt : k < xs.length
  · obtain ⟨⟨x1, x2⟩, ex⟩ := get_of hlt
    have hset := setL_take ex
    rw [← ho] at hset
    (focus (refine WP_seq ?_; refine Wr ?_; refine Tm ?_; refine Tm ?_; refine Tlen ?_; refine Tc ?_; refine On ?_; refine Wc ?_ ?_ <;> intro c3_1 <;> (first | simp [*] at c3_1; done | try simp at c3_1); refine WP_skip ?_; refine then_n ?_; refine WP_seq ?_; refine WP_block ?_; refine R_region ?_; refine Tm ?_; refine Tm ?_; refine Tm ?_; refine Ti ?_; refine Tl ?_; refine Le ?_; rintro _ _ _ rfl; refine S_c rfl rfl rfl (C_call (refPut21_s (x := (_, _)) ‹_› (by omega) (by omega)) rfl rfl ⟨_, _, rfl, ⟨_, _, rfl, rfl, rfl⟩, rfl⟩ (cal rfl) ?_); rintro h3_3 _ l3_3 ⟨p3_3, q3_3, rfl, f3_3, g3_3⟩; replace hO := hO.up l3_3; replace hs := hs.up l3_3; refine Tm ?_; refine OPS_nil ?_; refine block_n ?_; refine then_n ?_; refine R_region ?_; refine Tm ?_; refine Ta ?_; refine Tm ?_; refine OPS_nil ?_))
    exact roundF_n (k + 1, putI out (x1, x2), p3_3, q3_3) (by simp only; omega) ⟨le_trans hl1 l3_3, by simp only; omega, hset.symm, f3_3, g3_3⟩ (by repeat' first | exact sR _ | exact sA _ _ | exact sN _ | apply s2 | apply s1) (by repeat' first | exact trivial | refine ⟨rfl, ?_⟩)
  · have hge : k = xs.length := by omega
    subst hge
    rw [List.take_length] at ho
    subst ho
    (focus (refine WP_seq ?_; refine Wr ?_; refine Tm ?_; refine Tm ?_; refine Tlen ?_; refine Tc ?_; refine On ?_; refine Wc ?_ ?_ <;> intro c4_1 <;> (first | simp [*] at c4_1; done | try simp at c4_1); refine WP_exit ?_; refine then_e ?_; refine roundF_e ?_; refine block_e ?_; refine then_n ?_; refine Wr ?_; refine Tm ?_; refine Tm ?_; refine On ?_; refine WP_ret ?_))
    refine pret (.inl rfl) rfl ⟨_, _, rfl, rfl, rfl⟩ ?_
    exact ⟨_, _, rfl, hO, hc⟩
theorem refMinus_s {h : Frag} {a b : Value} {xs ys : List ID} (hs : SL h 2 IDC a xs) (hy : SL h 2 IDC b ys) (hb : xs.length ≤ 1000000) : PSpec Tryz.prog 52 #[a, b] h
    (fun h' v => ∃ p' c', v = .slice p' (minusL xs ys).length c' ∧ SL h' 2 IDC (.slice p' (minusL xs ys).length c') (minusL xs ys) ∧ (minusL xs ys).length ≤ c') := by
  obtain ⟨pv, cv, rfl⟩ := hs.slice
  obtain ⟨pu, cu, rfl⟩ := hy.slice
  refine pspec_of (vs := [.slice pv xs.length cv, .slice pu ys.length cu]) Tryz.func52 Tryz.ntmps52 rfl rfl ?_
  (focus (refine Wr ?_; refine Tm ?_; refine On ?_; refine Wr ?_; refine S_c rfl rfl rfl (C_buildSlice rfl (elm rfl) (zer rfl) rfl rfl rfl rfl ?_); intro b0_1; refine Tm ?_; refine On ?_; refine WP_seq ?_; refine Wr ?_; refine Tm ?_; refine On ?_; refine WP_block ?_))
  (refine WP_loopC (α := Nat × List ID × Option Addr × Nat) [0, 1] (fun (s : Nat × List ID × Option Addr × Nat) => xs.length - s.1) (fun (s : Nat × List ID × Option Addr × Nat) => [(6, .int .i64 (s.1 : Int)), (5, .slice s.2.2.1 s.2.1.length s.2.2.2)]) (fun hh (s : Nat × List ID × Option Addr × Nat) => le h hh ∧ s.1 ≤ xs.length ∧ s.2.1 = setL (keepL ys (xs.take s.1)) ∧ SL hh 2 IDC (.slice s.2.2.1 s.2.1.length s.2.2.2) s.2.1 ∧ s.2.1.length ≤ s.2.2.2) (0, [], some ⟨b0_1, 0, none⟩, 0) ⟨_, _, rfl, ⟨_, _, rfl, rfl, rfl⟩, rfl⟩ (by repeat' first | exact trivial | refine ⟨rfl, ?_⟩) ?_ ?_)
  · exact ⟨le_refl _, Nat.zero_le _, by rw [List.take_zero, keepL_nil], SLB.nil _ _ _ _ _ _, Nat.le_refl _⟩
  rintro h1 ⟨k, out, p, c⟩ _ ⟨hl1, hk, ho, hO, hc⟩
  simp only at hk ho hO hc
  dsimp only
  (replace hs := hs.up hl1; replace hy := hy.up hl1)
  have hol : out.length ≤ k := by
    have h1 := setL_length (keepL ys (xs.take k))
    have h2 := keepL_len ys (xs.take k)
    rw [List.length_take] at h2
    rw [ho]; omega
  by_cases hlt : k < xs.length
  · obtain ⟨⟨x1, x2⟩, ex⟩ := get_of hlt
    have hset := keepL_take (ys := ys) ex
    rw [← ho] at hset
    (focus (refine WP_seq ?_; refine Wr ?_; refine Tm ?_; refine Tm ?_; refine Tlen ?_; refine Tc ?_; refine On ?_; refine Wc ?_ ?_ <;> intro c3_1 <;> (first | simp [*] at c3_1; done | try simp at c3_1); refine WP_skip ?_; refine then_n ?_; refine WP_seq ?_; refine WP_block ?_; refine Wr ?_; refine Tm ?_; refine Tm ?_; refine Tm ?_; refine Ti ?_; refine Tl ?_; refine Le ?_; rintro _ _ _ rfl; refine S_c rfl rfl rfl (C_callv (refHas_s (x := (_, _)) ‹_›) rfl rfl ⟨_, _, rfl, ⟨_, _, rfl, rfl, rfl⟩, rfl⟩ (cal rfl) ?_); refine S_q rfl rfl rfl (Q_not rfl rfl) ?_; refine On ?_; refine Wc ?_ ?_ <;> intro c3_3 <;> (first | simp [*] at c3_3; done | try simp at c3_3); (focus (refine R_region ?_; refine Tm ?_; refine Tm ?_; refine Tm ?_; refine Ti ?_; refine Tl ?_; refine Le ?_; rintro _ _ _ rfl; refine S_c rfl rfl rfl (C_call (refPut21_s (x := (_, _)) ‹_› (by omega) (by omega)) rfl rfl ⟨_, _, rfl, ⟨_, _, rfl, rfl, rfl⟩, rfl⟩ (cal rfl) ?_); rintro h3_5 _ l3_5 ⟨p3_5, q3_5, rfl, f3_5, g3_5⟩; replace hO := hO.up l3_5; replace hs := hs.up l3_5; replace hy := hy.up l3_5; refine Tm ?_; refine OPS_nil ?_; refine block_n ?_; refine then_n ?_; refine R_region ?_; refine Tm ?_; refine Ta ?_; refine Tm ?_; refine OPS_nil ?_)); rotate_left 1; (focus (refine WP_skip ?_; refine block_n ?_; refine then_n ?_; refine R_region ?_; refine Tm ?_; refine Ta ?_; refine Tm ?_; refine OPS_nil ?_)); rotate_left 1))
    · rw [if_neg c3_3] at hset
      exact roundF_n (k + 1, putI out (x1, x2), p3_5, q3_5) (by simp only; omega) ⟨le_trans hl1 l3_5, by simp only; omega, hset.symm, f3_5, g3_5⟩ (by repeat' first | exact sR _ | exact sA _ _ | exact sN _ | apply s2 | apply s1) (by repeat' first | exact trivial | refine ⟨rfl, ?_⟩)
    · rw [if_pos c3_3] at hset
      exact roundF_n (k + 1, out, p, c) (by simp only; omega) ⟨hl1, by simp only; omega, hset.symm, hO, hc⟩ (by repeat' first | exact sR _ | exact sA _ _ | exact sN _ | apply s2 | apply s1) (by repeat' first | exact trivial | refine ⟨rfl, ?_⟩)
  · have hge : k = xs.length := by omega
    subst hge
    rw [List.take_length, keepL_minus] at ho
    subst ho
    (focus (refine WP_seq ?_; refine Wr ?_; refine Tm ?_; refine Tm ?_; refine Tlen ?_; refine Tc ?_; refine On ?_; refine Wc ?_ ?_ <;> intro c4_1 <;> (first | simp [*] at c4_1; done | try simp at c4_1); refine WP_exit ?_; refine then_e ?_; refine roundF_e ?_; refine block_e ?_; refine then_n ?_; refine Wr ?_; refine Tm ?_; refine Tm ?_; refine On ?_; refine WP_ret ?_))
    refine pret (.inl rfl) rfl ⟨_, _, rfl, rfl, rfl⟩ ?_
    exact ⟨_, _, rfl, hO, hc⟩
end Go.Proofs.YtfhoecgiahpddaaGreat
/-
  PLAIN: what is reached, taken from a list of what is still to do.
-/
set_option linter.all false
namespace Go.Proofs.YtfhoecgiahpddaaGreat
open Go.Mesh Go.RowKit
set_option maxRecDepth 100000
set_option linter.unusedVariables false
set_option maxHeartbeats 4000000
attribute [local irreducible] WP OPS ANY ANYo LG LV FSpec PSpec QOP OPc OPw thenQ blockQ roundQ roundF retQ retM Rd At SLB OS cmpI orI cmpID namedB valB nodeB kindB validG valAux idxI findG zeroV viewOf vwAt idxOf recv flyB scionOf moveOf numberedOf idOf valueOf mget mput localB carriedB stubOf followF followOf flOf flightsOf flPre setL minusL compactL putI mergeN insN insAll unionR NMap Coll retN bodyS GMap Dfs refsV refsOf reachL
/-- the list of what is to do, read up to i; what was found -/
def Bfs (g : List Nd) (roots todo : List ID) (i : Nat) (out : List ID) : Prop := SI out ∧ (∀ x, x ∈ out → Reach g roots x) ∧ (∀ x, x ∈ todo → ∀ n, findG g x = some n → Reach g roots x) ∧ (∀ x, x ∈ roots → x ∈ todo) ∧
  (∀ x, x ∈ out → ∀ n, findG g x = some n → ∀ y, y ∈ refsOf n → y ∈ todo) ∧ ∀ (j : Nat) (x : ID), j < i → todo[j]? = some x → x ∈ out ∨ findG g x = none
theorem Bfs_start (g : List Nd) (roots : List ID) : Bfs g roots roots 0 [] := ⟨List.Pairwise.nil, by simp, fun x hx n hn => .root hx hn, fun _ h => h, by simp, fun j x hj => absurd hj (Nat.not_lt_zero _)⟩
theorem Bfs_skip {g : List Nd} {roots todo out : List ID} {i : Nat} {x : ID} (b : Bfs g roots todo i out) (hx : todo[i]? = some x) (h : x ∈ out ∨ findG g x = none) : Bfs g roots todo (i + 1) out := by
  obtain ⟨b1, b2, b3, b4, b5, b6⟩ := b
  refine ⟨b1, b2, b3, b4, b5, fun j y hj hy => ?_⟩
  by_cases e : j = i
  · subst e; rw [hx] at hy; cases hy; exact h
  · exact b6 j y (by omega) hy
theorem Bfs_add {g : List Nd} {roots todo out : List ID} {i : Nat} {x : ID} {n : Nd} (b : Bfs g roots todo i out) (hx : todo[i]? = some x) (hn : findG g x = some n) : Bfs g roots (todo ++ refsOf n) (i + 1) (putI out x) := by
  obtain ⟨b1, b2, b3, b4, b5, b6⟩ := b
  have hrx : Reach g roots x := b3 x (List.mem_of_getElem? hx) n hn
  have hlt := (List.getElem?_eq_some_iff.1 hx).1
  refine ⟨SI_putI b1, fun y hy => ?_, fun y hy m hm => ?_, fun y hy => List.mem_append.2 (.inl (b4 y hy)), fun y hy m hm z hz => ?_, fun j y hj hy => ?_⟩
  · rcases mem_putI.1 hy with e | e
    · subst e; exact hrx
    · exact b2 y e
  · rcases List.mem_append.1 hy with e | e
    · exact b3 y e m hm
    · exact .step hrx hn e hm
  · rcases mem_putI.1 hy with e | e
    · subst e; rw [hn] at hm; cases hm; exact List.mem_append.2 (.inr hz)
    · exact List.mem_append.2 (.inl (b5 y e m hm z hz))
  · rw [List.getElem?_append_left (by omega)] at hy
    by_cases e : j = i
    · subst e; rw [hx] at hy; cases hy; exact .inl (mem_putI.2 (.inl rfl))
    · rcases b6 j y (by omega) hy with e | e
      · exact .inl (mem_putI.2 (.inr e))
      · exact .inr e
theorem SI_nodup {l : List ID} (h : SI l) : l.Nodup := by
  refine List.Pairwise.imp (fun {a b} hab e => ?_) h
  subst e; exact cmp_irrefl _ hab
theorem Bfs_len {g : List Nd} {roots todo out : List ID} {i : Nat} (b : Bfs g roots todo i out) : out.length ≤ g.length := by
  have := nodup_subI out (g.map (·.id)) (SI_nodup b.1) fun x hx => by
    obtain ⟨n, hn⟩ := (b.2.1 x hx).has
    have := findG_some hn
    exact List.mem_map.2 ⟨n, this.1, this.2⟩
  simpa using this
theorem Bfs_end {g : List Nd} {roots todo out : List ID} {i : Nat} (b : Bfs g roots todo i out) (hi : todo.length ≤ i) : out = reachL g roots := by
  obtain ⟨b1, b2, b3, b4, b5, b6⟩ := b
  have key : ∀ x, x ∈ todo → ∀ n, findG g x = some n → x ∈ out := fun x hx n hn => by
    obtain ⟨j, hj⟩ := List.getElem?_of_mem hx
    rcases b6 j x (Nat.lt_of_lt_of_le (List.getElem?_eq_some_iff.1 hj).1 hi) hj with e | e
    · exact e
    · rw [hn] at e; cases e
  refine SI_unique b1 (SI_reachL g roots) fun x => ?_
  rw [mem_reachL]
  refine ⟨b2 x, fun h => ?_⟩
  induction h with
  | root h1 h2 => exact key _ (b4 _ h1) _ h2
  | step h1 h2 h3 h4 ih => exact key _ (b5 _ ih _ h2 _ h3) _ h4
theorem putI_new {x : ID} : ∀ {l : List ID}, x ∉ l → (putI l x).length = l.length + 1
  | [], _ => by simp [putI]
  | y :: l, h => by
    simp only [List.mem_cons, not_or] at h
    unfold putI
    split
    · simp [putI_new h.2]
    · rw [if_neg (Ne.symm h.1)]; simp
theorem Bfs_found {g : List Nd} {roots todo out : List ID} {i : Nat} (b : Bfs g roots todo i out) : SI out := b.1
attribute [local irreducible] Bfs
end Go.Proofs.YtfhoecgiahpddaaGreat
/-
  CONTRACTS: what a graph reaches, as the reference finds it (refmeshref16.Reachable).
-/
set_option linter.all false
namespace Go.Proofs.YtfhoecgiahpddaaGreat
open Go.Mesh Go.RowKit
set_option maxRecDepth 100000
set_option linter.unusedVariables false
set_option maxHeartbeats 4000000
attribute [local irreducible] WP OPS ANY ANYo LG LV FSpec PSpec QOP OPc OPw thenQ blockQ roundQ roundF retQ retM Rd At SLB OS cmpI orI cmpID namedB valB nodeB kindB validG valAux idxI findG zeroV viewOf vwAt idxOf recv flyB scionOf moveOf numberedOf idOf valueOf mget mput localB carriedB msgB sizesB smallV fewB stubOf followF followOf flOf flightsOf flPre setL minusL compactL putI mergeN insN insAll unionR NMap Coll retN bodyS GMap Dfs refsV refsOf reachL movedOf movedG graphParts graphR isMove flightIDs mailIDs viewIDs rawRoots rootsR refFl refMoved Bfs
theorem refsOf_empty (i : ID) (kd cl : Int) : refsOf ⟨i, kd, cl, []⟩ = [] := by
  rw [refsOf]; split
  · rfl
  · exact refsV_nil
theorem refsOf_len (i : ID) (kd cl : Int) (fs : List Val) : (refsOf ⟨i, kd, cl, fs⟩).length ≤ fs.length := by
  rw [refsOf]; split
  · simp
  · exact refsV_length fs
theorem refReach_s {h : Frag} {g : List Nd} {us : List Value} {a : Value} {roots : List ID} (hg : GraphC 4398046511104 h g us) (hr : SL h 2 IDC a roots) (hgl : g.length ≤ 1000000) (hrl : roots.length ≤ 1000000) (hgf : ∀ n, n ∈ g → n.fields.length ≤ 1000) :
    PSpec Tryz.prog 54 #[.agg us.toArray, a] h (fun h' v => ∃ p c, v = .slice p (reachL g roots).length c ∧ SL h' 2 IDC (.slice p (reachL g roots).length c) (reachL g roots)) := by
  obtain ⟨pg, cg, rfl, hf⟩ := hg
  obtain ⟨pr, cr, rfl⟩ := hr.slice
  refine pspec_of (vs := [.agg [Value.slice pg g.length cg].toArray, .slice pr roots.length cr]) Tryz.func54 Tryz.ntmps54 rfl rfl ?_
  (focus (refine Wr ?_; refine Tbx ?_; intro b0_1; refine Tm ?_; refine On ?_; refine Wr ?_; refine S_c rfl rfl rfl (C_buildSlice rfl (elm rfl) (zer rfl) rfl rfl rfl rfl ?_); intro b0_2; refine Tm ?_; refine On ?_; refine Wr ?_; refine S_c rfl rfl rfl (C_buildSlice rfl (elm rfl) (zer rfl) rfl rfl rfl rfl ?_); intro b0_3; refine Tm ?_; refine S_w rfl rfl rfl (W_appS [] _ (OS.lit0 _ _ _ _ _) ‹_› rfl rfl rfl rfl rfl rfl (elm rfl) (zer rfl) rfl rfl (by (try simp only [lA]); omega) (by (try simp only [lA]); omega) ?_); rintro p0_4 q0_4 m0_4 o0_4; refine Tm ?_; refine On ?_; refine WP_seq ?_; refine Wr ?_; refine Tm ?_; refine On ?_; refine WP_block ?_))
  refine WP.perm (L2 := (b0_1, cells [.slice pg g.length cg] 27) :: (b0_2, cells [] 35) :: (m0_4 ++ [])) ?_ ?_
  · rw [List.append_nil]
    exact (List.Perm.swap _ _ _).trans (List.perm_append_comm (l₁ := [_, _]))
  (focus (refine WP_keepM [] [_] _ rfl ?_; rintro h1_k l1_k k1_k; have a1_k := at_of_keep k1_k; clear k1_k; replace hf := hf.up l1_k; replace hr := hr.up l1_k; replace o0_4 := o0_4.up l1_k))
  (refine WP_loopF (α := Nat × (List ID × Option Addr × Nat) × (List ID × Option Addr × Nat) × Hp) [2] (fun (s : Nat × (List ID × Option Addr × Nat) × (List ID × Option Addr × Nat) × Hp) => (g.length - s.2.1.1.length) * 1001 + (s.2.2.1.1.length - s.1)) (fun (s : Nat × (List ID × Option Addr × Nat) × (List ID × Option Addr × Nat) × Hp) => s.2.2.2 ++ []) (fun (s : Nat × (List ID × Option Addr × Nat) × (List ID × Option Addr × Nat) × Hp) => [(7, .int .i64 (s.1 : Int)), (6, .slice s.2.2.1.2.1 s.2.2.1.1.length s.2.2.1.2.2), (5, .slice s.2.1.2.1 s.2.1.1.length s.2.1.2.2)]) (fun hh (s : Nat × (List ID × Option Addr × Nat) × (List ID × Option Addr × Nat) × Hp) => le h1_k hh ∧ s.1 ≤ s.2.2.1.1.length ∧ Bfs g roots s.2.2.1.1 s.1 s.2.1.1 ∧ SL hh 2 IDC (.slice s.2.1.2.1 s.2.1.1.length s.2.1.2.2) s.2.1.1 ∧ s.2.1.1.length ≤ s.2.1.2.2 ∧ OS hh 35 2 IDC (.slice s.2.2.1.2.1 s.2.2.1.1.length s.2.2.1.2.2) s.2.2.1.1 s.2.2.2 ∧ s.2.2.1.1.length ≤ roots.length + s.2.1.1.length * 1000) (0, ([], some ⟨b0_2, 0, none⟩, 0), (roots, p0_4, q0_4), m0_4) ⟨_, _, rfl, rfl, rfl⟩ ?_ (by repeat' first | exact sR _ | exact sA _ _ | exact sN _ | apply s2 | apply s1) (by repeat' first | exact trivial | refine ⟨rfl, ?_⟩) ?_)
  · exact ⟨le_refl _, Nat.zero_le _, Bfs_start _ _, SLB.nil _ _ _ _ _ _, Nat.le_refl _, o0_4, by simp⟩
  clear o0_4
  rintro h2 ⟨i, ⟨out, po, co⟩, ⟨todo, pt, ct⟩, M⟩ _ ⟨hl2, hi, hB, hO, hc, hT, htl⟩
  simp only at hi hB hO hc hT htl
  dsimp only
  (replace a1_k := a1_k.up hl2; replace hf := hf.up hl2; replace hr := hr.up hl2)
  have hol := Bfs_len hB
  by_cases hlt : i < todo.length
  · obtain ⟨⟨x1, x2⟩, ex⟩ := get_of hlt
    (focus (refine WP_seq ?_; refine Wr ?_; refine Tm ?_; refine Tm ?_; refine Tlen ?_; refine Tc ?_; refine On ?_; refine Wc ?_ ?_ <;> intro c4_1 <;> (first | simp [*] at c4_1; done | try simp at c4_1); refine WP_skip ?_; refine then_n ?_; refine WP_seq ?_; refine WP_block ?_))
    refine WP_cutS (α := Nat × Option Addr × Nat) (fun hh s => hh = h2 ∧ SL h2 4 ValC (.slice s.2.1 ((findG g (x1, x2)).getD zeroN).fields.length s.2.2) ((findG g (x1, x2)).getD zeroN).fields)
      (fun s => (s.1, cells [.int .i64 ((findG g (x1, x2)).getD zeroN).id.1, .int .i64 ((findG g (x1, x2)).getD zeroN).id.2, .int .i64 ((findG g (x1, x2)).getD zeroN).kind, .int .i64 ((findG g (x1, x2)).getD zeroN).cls, .slice s.2.1 ((findG g (x1, x2)).getD zeroN).fields.length s.2.2] 38) :: (M ++ []))
      (fun s => [(8, ptr s.1 0), (9, .bool (findG g (x1, x2)).isSome), (7, .int .i64 (i : Int)), (6, .slice pt todo.length ct), (5, .slice po out.length co), (2, ptr b0_1 0)]) ?_ ?_
    · (focus (refine R_draw (n := 12) mixed rfl ?_; refine Va 0 ?_; refine Vl 1 ?_; refine Lp ?_; refine Va 1 ?_; refine Vm 3 ?_; refine Va 2 ?_; refine Vm 7 ?_; refine Va 3 ?_; refine A_q (m' := 15) rfl rfl rfl (Q_indexO ‹_› ‹_› rfl rfl rfl (elm rfl) rfl) rfl (by decide +kernel) ?_; refine Va 4 ?_; refine Vl 31 ?_; refine L_oelA [] _ ‹_› ‹_› rfl (ty rfl) ?_; rintro _ _ _ rfl; refine A_two 5 9 (mi := 63) (mj := 543) rfl rfl (by decide +kernel) rfl rfl ?_ ?_; (focus (refine T_at rfl ?_; refine T_cO rfl rfl rfl (C_call0 (refFind_s ⟨_, _, rfl, by assumption⟩) rfl rfl ⟨_, _, rfl, ⟨_, _, rfl, rfl, rfl⟩, rfl⟩ (cal rfl) ?_); rintro _ ⟨cv5_2, rfl, cl5_2, co5_2, ⟨pn5_2, qn5_2, rfl, fn5_2⟩⟩; refine Va 6 ?_; refine Vm 127 ?_; refine Va 7 ?_; refine A_q (m' := 255) rfl rfl rfl (Q_extract rfl rfl rfl) rfl (by decide +kernel) ?_; refine Va 8 ?_; refine A_qp (m' := 511) rfl rfl rfl (Q_extract rfl rfl rfl) rfl (by decide +kernel) ?_; refine Va 9 ?_; refine A_c (m' := 1023) rfl rfl rfl rfl (by decide +kernel) (C_alloc rfl (zer rfl) ?_); intro b5_3; refine Va 10 ?_; refine A_w0 (m' := 2047) rfl rfl rfl rfl (by decide +kernel) (W_all rfl rfl rfl (ty rfl) u0 (by first | rfl | assumption) (by first | rfl | assumption) (by first | rfl | assumption | exact ones_sub ‹_› _ _) ?_); refine Va 11 ?_; refine Vs 4095 ?_; refine A_done (by decide +kernel) ?_)); rotate_left 1; (focus (refine T_at rfl ?_; refine T_cO rfl rfl rfl (C_alloc rfl (zer rfl) ?_); intro b5_4; refine Va 5 ?_; refine A_c (m' := 575) rfl rfl rfl rfl (by decide +kernel) (C_call0 (refFind_s ⟨_, _, rfl, by assumption⟩) rfl rfl ⟨_, _, rfl, ⟨_, _, rfl, rfl, rfl⟩, rfl⟩ (cal rfl) ?_); rintro _ ⟨cv5_5, rfl, cl5_5, co5_5, ⟨pn5_5, qn5_5, rfl, fn5_5⟩⟩; refine Va 6 ?_; refine Vm 639 ?_; refine Va 7 ?_; refine A_q (m' := 767) rfl rfl rfl (Q_extract rfl rfl rfl) rfl (by decide +kernel) ?_; refine Va 8 ?_; refine A_qp (m' := 1023) rfl rfl rfl (Q_extract rfl rfl rfl) rfl (by decide +kernel) ?_; refine Va 10 ?_; refine A_w0 (m' := 2047) rfl rfl rfl rfl (by decide +kernel) (W_all rfl rfl rfl (ty rfl) u0 (by first | rfl | assumption) (by first | rfl | assumption) (by first | rfl | assumption | exact ones_sub ‹_› _ _) ?_); refine Va 11 ?_; refine Vs 4095 ?_; refine A_done (by decide +kernel) ?_)); rotate_left 1))
      · exact ⟨rfl, rfl, (b5_3, pn5_2, qn5_2), ⟨rfl, fn5_2⟩, (by repeat' first | exact sR _ | exact sA _ _ | exact sN _ | apply s2 | apply s1), (by repeat' first | exact trivial | refine ⟨rfl, ?_⟩)⟩
      · exact ⟨rfl, rfl, (b5_4, pn5_5, qn5_5), ⟨rfl, fn5_5⟩, (by repeat' first | exact sR _ | exact sA _ _ | exact sN _ | apply s2 | apply s1), (by repeat' first | exact trivial | refine ⟨rfl, ?_⟩)⟩
    rintro h3 ⟨b, pn, qn⟩ _ ⟨rfl, hN⟩
    simp only at hN
    dsimp only
    cases hfd : findG g (x1, x2) with
    | none =>
      rw [hfd] at hN
      (focus (refine WP_seq ?_; refine Wr ?_; refine Tm ?_; refine S_q rfl rfl rfl (Q_not rfl rfl) ?_; refine Tm ?_; refine Ugs ?_ ?_ <;> intro c6_1 <;> (first | simp [*] at c6_1; done | try simp at c6_1); refine Tn ?_; refine Tn ?_; refine Tn ?_; refine Tn ?_; refine Tp1 ?_; refine On ?_; refine cond_t rfl ?_; refine WP_exit ?_; refine then_e ?_; refine block_e ?_; refine then_n ?_; refine R_region ?_; refine Tm ?_; refine Ta ?_; refine Tm ?_; refine OPS_nil ?_))
      exact roundF_n (i + 1, (out, po, co), (todo, pt, ct), M) (by simp only; omega) ⟨hl2, by simp only; omega, Bfs_skip hB ex (.inr hfd), hO, hc, hT, htl⟩ (by repeat' first | exact sR _ | exact sA _ _ | exact sN _ | apply s2 | apply s1) (by repeat' first | exact trivial | refine ⟨rfl, ?_⟩)
    | some n =>
      rw [hfd] at hN
      have hnf := hgf n (findG_some hfd).1
      have hni := (findG_some hfd).2
      obtain ⟨⟨n1, n2⟩, kd, cl, fs⟩ := n
      simp only [Option.getD_some] at hni hnf hN ⊢
      cases hni
      by_cases hin : (x1, x2) ∈ out
      · (focus (refine WP_seq ?_; refine Wr ?_; refine Tm ?_; refine S_q rfl rfl rfl (Q_not rfl rfl) ?_; refine Tm ?_; refine Ugs ?_ ?_ <;> intro c7_1 <;> (first | simp [*] at c7_1; done | try simp at c7_1); refine Ugm ?_; refine Ugf ?_; refine Ugl ?_; refine L_sub (Rd.own m0) (ty rfl) rfl ?_; refine S_gc rfl rfl rfl rfl rfl rfl (C_callv (hasID_s (x := (_, _)) ‹_›) rfl rfl ⟨_, _, rfl, ⟨_, _, rfl, rfl, rfl⟩, rfl⟩ (cal rfl) ?_); refine Tp0 ?_; refine On ?_; refine Wc ?_ ?_ <;> intro c7_2 <;> (first | simp [*] at c7_2; done | try simp at c7_2); refine WP_exit ?_; refine then_e ?_; refine block_e ?_; refine then_n ?_; refine R_region ?_; refine Tm ?_; refine Ta ?_; refine Tm ?_; refine OPS_nil ?_))
        exact roundF_n (i + 1, (out, po, co), (todo, pt, ct), M) (by simp only; omega) ⟨hl2, by simp only; omega, Bfs_skip hB ex (.inl hin), hO, hc, hT, htl⟩ (by repeat' first | exact sR _ | exact sA _ _ | exact sN _ | apply s2 | apply s1) (by repeat' first | exact trivial | refine ⟨rfl, ?_⟩)
      have hadd := Bfs_add hB ex hfd
      have hpl := putI_new hin
      have hal := Bfs_len hadd
      (focus (refine WP_seq ?_; refine Wr ?_; refine Tm ?_; refine S_q rfl rfl rfl (Q_not rfl rfl) ?_; refine Tm ?_; refine Ugs ?_ ?_ <;> intro c8_1 <;> (first | simp [*] at c8_1; done | try simp at c8_1); refine Ugm ?_; refine Ugf ?_; refine Ugl ?_; refine L_sub (Rd.own m0) (ty rfl) rfl ?_; refine S_gc rfl rfl rfl rfl rfl rfl (C_callv (hasID_s (x := (_, _)) ‹_›) rfl rfl ⟨_, _, rfl, ⟨_, _, rfl, rfl, rfl⟩, rfl⟩ (cal rfl) ?_); refine Tp0 ?_; refine On ?_; refine Wc ?_ ?_ <;> intro c8_2 <;> (first | simp [*] at c8_2; done | try simp at c8_2); refine WP_skip ?_; refine then_n ?_; refine Wr ?_; refine Tm ?_; refine Tf ?_; refine Tl ?_; refine L_sub (Rd.own m0) (ty rfl) rfl ?_; refine S_c rfl rfl rfl (C_call (putID_s (x := (_, _)) ‹_› (by omega) (by omega)) rfl rfl ⟨_, _, rfl, ⟨_, _, rfl, rfl, rfl⟩, rfl⟩ (cal rfl) ?_); rintro h8_3 _ l8_3 ⟨p8_3, q8_3, rfl, f8_3, g8_3⟩; replace hO := hO.up l8_3; replace hT := hT.up l8_3; replace a1_k := a1_k.up l8_3; replace hf := hf.up l8_3; replace hr := hr.up l8_3; replace hN := hN.up l8_3; refine Tm ?_; refine On ?_; refine Wr ?_; refine Tm ?_; refine On ?_; refine WP_block ?_))
      (refine WP_loopM (α := Nat × List ID × Option Addr × Nat × Hp) [_]  _ [5, 8, 7, 2] (fun (s : Nat × List ID × Option Addr × Nat × Hp) => fs.length - s.1) (fun (s : Nat × List ID × Option Addr × Nat × Hp) =>  s.2.2.2.2) (fun (s : Nat × List ID × Option Addr × Nat × Hp) => [(10, .int .i64 (s.1 : Int)), (6, .slice s.2.2.1 s.2.1.length s.2.2.2.1)]) (fun hh (s : Nat × List ID × Option Addr × Nat × Hp) => hh = h8_3 ∧ s.1 ≤ fs.length ∧ s.2.1 = todo ++ refsOf ⟨(x1, x2), kd, cl, fs.take s.1⟩ ∧ OS h8_3 35 2 IDC (.slice s.2.2.1 s.2.1.length s.2.2.2.1) s.2.1 s.2.2.2.2) (0, todo, pt, ct, M) rfl ⟨_, _, rfl, ⟨_, _, rfl, ⟨_, _, rfl, ⟨_, _, rfl, rfl, rfl⟩, rfl⟩, rfl⟩, rfl⟩ (by repeat' first | exact trivial | refine ⟨rfl, ?_⟩) ?_ ?_)
      · refine ⟨rfl, Nat.zero_le _, ?_, hT⟩
        simp only; rw [List.take_zero, refsOf_empty, List.append_nil]
      clear hT
      rintro h4 ⟨k, td, pt2, ct2, M2⟩ _ ⟨rfl, hk, htd, hT⟩
      simp only at hk htd hT
      dsimp only
      have htdl : td.length ≤ todo.length + k := by
        have := refsOf_len (x1, x2) kd cl (fs.take k)
        rw [List.length_take] at this
        rw [htd, List.length_append]; omega
      by_cases hw : kd = 2
      · rw [refsOf_weak hw, List.append_nil] at htd hadd
        subst htd
        (focus (refine WP_seq ?_; refine Wr ?_; refine Tm ?_; refine Tf ?_; refine Tl ?_; refine Lo m0 ?_; refine Tlen ?_; refine Tc ?_; refine Tm ?_; refine Ugs ?_ ?_ <;> intro c10_1 <;> (first | simp [*] at c10_1; done | try simp at c10_1); (focus (refine Ugf ?_; refine Ugl ?_; refine Lo m0 ?_; refine Ugc ?_; refine Tp1 ?_; refine On ?_; refine Wc ?_ ?_ <;> intro c10_2 <;> (first | simp [*] at c10_2; done | try simp at c10_2); refine WP_exit ?_; refine then_e ?_; refine roundF_e ?_; refine block_e ?_; refine block_n ?_; refine then_n ?_; refine R_region ?_; refine Tm ?_; refine Ta ?_; refine Tm ?_; refine OPS_nil ?_)); rotate_left 1; (focus (refine Tn ?_; refine Tn ?_; refine Tn ?_; refine Tp0 ?_; refine On ?_; refine cond_f rfl ?_; refine WP_exit ?_; refine then_e ?_; refine roundF_e ?_; refine block_e ?_; refine block_n ?_; refine then_n ?_; refine R_region ?_; refine Tm ?_; refine Ta ?_; refine Tm ?_; refine OPS_nil ?_)); rotate_left 1))
        all_goals exact roundF_n (i + 1, (putI out (x1, x2), p8_3, q8_3), (td, pt2, ct2), M2) (by simp only; omega) ⟨le_trans hl2 l8_3, by simp only; omega, hadd, f8_3, g8_3, hT, by simp only; omega⟩ (by repeat' first | exact sR _ | exact sA _ _ | exact sN _ | apply s2 | apply s1) (by repeat' first | exact trivial | refine ⟨rfl, ?_⟩)
      by_cases hlt2 : k < fs.length
      · obtain ⟨⟨v1, v2, v3, v4⟩, ev⟩ := get_of hlt2
        have htk := refsV_take ev
        rw [refsOf_plain hw] at htd
        simp only at htd
        (focus (refine WP_seq ?_; refine Wr ?_; refine Tm ?_; refine Tf ?_; refine Tl ?_; refine Lo m0 ?_; refine Tlen ?_; refine Tc ?_; refine Tm ?_; refine Ugs ?_ ?_ <;> intro c11_1 <;> (first | simp [*] at c11_1; done | try simp at c11_1); refine Ugf ?_; refine Ugl ?_; refine Lo m0 ?_; refine Ugc ?_; refine Tp1 ?_; refine On ?_; refine Wc ?_ ?_ <;> intro c11_2 <;> (first | simp [*] at c11_2; done | try simp at c11_2); refine WP_skip ?_; refine then_n ?_; refine WP_seq ?_; refine WP_block ?_; refine Wr ?_; refine Tf ?_; refine Tl ?_; refine Lo m0 ?_; refine Tm ?_; refine Ti ?_; refine Tf ?_; refine Tl ?_; refine L_elF ‹_› ‹_› ?_; rintro _ _ _ rfl; refine LV_1 (ty rfl) rfl ?_; refine Tc ?_; refine On ?_; refine Wc ?_ ?_ <;> intro c11_4 <;> (first | simp [*] at c11_4; done | try simp at c11_4); (focus (refine R_region ?_; refine Tm ?_; refine Tf ?_; refine Tl ?_; refine Lo m0 ?_; refine Tm ?_; refine Ti ?_; refine Tf ?_; refine Tl ?_; refine L_elF ‹_› ‹_› ?_; rintro _ _ _ rfl; refine LV_a (ty rfl) rfl ?_; refine S_c rfl rfl rfl (C_buildSlice rfl (elm rfl) (zer rfl) rfl ⟨_, _, _, rfl, rfl, rfl, rfl, rfl, rfl⟩ rfl rfl ?_); intro b11_6; refine S_w rfl rfl rfl (W_app1 [_] _ hT rfl rfl rfl rfl rfl rfl (elm rfl) (zer rfl) rfl rfl rfl rfl rfl (by (try simp only [lA]); omega) (by (try simp only [lA]); omega) ?_); rintro p11_7 q11_7 m11_7 o11_7; refine Tm ?_; refine OPS_nil ?_; refine block_n ?_; refine then_n ?_; refine R_region ?_; refine Tm ?_; refine Ta ?_; refine Tm ?_; refine OPS_nil ?_)); rotate_left 1; (focus (refine WP_skip ?_; refine block_n ?_; refine then_n ?_; refine R_region ?_; refine Tm ?_; refine Ta ?_; refine Tm ?_; refine OPS_nil ?_)); rotate_left 1))
        · rw [if_pos c11_4] at htk
          refine roundF_n (k + 1, td ++ [(v3, v4)], p11_7, q11_7, m11_7) (by simp only; omega) ⟨rfl, by simp only; omega, ?_, o11_7⟩ (by repeat' first | exact sR _ | exact sA _ _ | exact sN _ | apply s2 | apply s1) (by repeat' first | exact trivial | refine ⟨rfl, ?_⟩)
          simp only; rw [refsOf_plain hw]; simp only; rw [htk, htd, List.append_assoc]
        · rw [if_neg c11_4, List.append_nil] at htk
          refine roundF_n (k + 1, td, pt2, ct2, M2) (by simp only; omega) ⟨rfl, by simp only; omega, ?_, hT⟩ (by repeat' first | exact sR _ | exact sA _ _ | exact sN _ | apply s2 | apply s1) (by repeat' first | exact trivial | refine ⟨rfl, ?_⟩)
          simp only; rw [refsOf_plain hw]; simp only; rw [htk, htd]
      have hge2 : k = fs.length := by omega
      subst hge2
      rw [List.take_length] at htd
      rw [← htd] at hadd
      have hbl : todo.length ≤ td.length := by rw [htd, List.length_append]; omega
      (focus (refine WP_seq ?_; refine Wr ?_; refine Tm ?_; refine Tf ?_; refine Tl ?_; refine Lo m0 ?_; refine Tlen ?_; refine Tc ?_; refine Tm ?_; refine Ugs ?_ ?_ <;> intro c12_1 <;> (first | simp [*] at c12_1; done | try simp at c12_1); refine Tn ?_; refine Tn ?_; refine Tn ?_; refine Tp0 ?_; refine On ?_; refine cond_f rfl ?_; refine WP_exit ?_; refine then_e ?_; refine roundF_e ?_; refine block_e ?_; refine block_n ?_; refine then_n ?_; refine R_region ?_; refine Tm ?_; refine Ta ?_; refine Tm ?_; refine OPS_nil ?_))
      exact roundF_n (i + 1, (putI out (x1, x2), p8_3, q8_3), (td, pt2, ct2), M2) (by simp only; omega) ⟨le_trans hl2 l8_3, by simp only; omega, hadd, f8_3, g8_3, hT, by simp only; omega⟩ (by repeat' first | exact sR _ | exact sA _ _ | exact sN _ | apply s2 | apply s1) (by repeat' first | exact trivial | refine ⟨rfl, ?_⟩)
  have hge : i = todo.length := by omega
  subst hge
  have he := Bfs_end hB (Nat.le_refl _)
  (focus (refine WP_seq ?_; refine Wr ?_; refine Tm ?_; refine Tm ?_; refine Tlen ?_; refine Tc ?_; refine On ?_; refine Wc ?_ ?_ <;> intro c13_1 <;> (first | simp [*] at c13_1; done | try simp at c13_1); refine WP_exit ?_; refine then_e ?_; refine roundF_e ?_; refine block_e ?_; refine then_n ?_; refine Wr ?_; refine Tm ?_; refine Tm ?_; refine On ?_; refine WP_ret ?_))
  refine pret (.inl rfl) rfl ⟨_, _, rfl, rfl, rfl⟩ ?_
  rw [← he]; exact ⟨_, _, rfl, hO⟩
end Go.Proofs.YtfhoecgiahpddaaGreat
/-
  CONTRACTS: observer.Reachable, observer.Garbage, observer.Home.
-/
set_option linter.all false
namespace Go.Proofs.YtfhoecgiahpddaaGreat
open Go.Mesh Go.RowKit
set_option maxRecDepth 100000
set_option linter.unusedVariables false
set_option maxHeartbeats 4000000
attribute [local irreducible] WP OPS ANY ANYo LG LV FSpec PSpec QOP OPc OPw thenQ blockQ roundQ roundF retQ retM Rd At SLB OS cmpI orI cmpID namedB valB nodeB kindB validG valAux idxI findG zeroV viewOf vwAt idxOf recv flyB scionOf moveOf numberedOf idOf valueOf mget mput localB carriedB stubOf followF followOf flOf flightsOf flPre setL minusL compactL putI mergeN insN insAll unionR NMap Coll retN bodyS GMap Dfs refsV refsOf reachL movedOf movedG graphParts graphR isMove flightIDs mailIDs viewIDs rawRoots rootsR
theorem mergeN_or {o n m : Nd} (h : mergeN o n = some m) : m = o ∨ m = n := by
  unfold mergeN at h
  grind
theorem insN_mem {l l' : List Nd} {n : Nd} (hs : SN l) (h : insN l n = some l') : SN l' ∧ l'.length ≤ l.length + 1 ∧ ∀ z, z ∈ l' → z = n ∨ z ∈ l := by
  have k := insN_spec (n := n) hs
  cases hf : findG l n.id with
  | none =>
    rw [hf] at k
    obtain ⟨l2, e1, e2, e3, e4, _⟩ := k
    rw [h] at e1; cases e1
    exact ⟨e2, by omega, e4⟩
  | some o =>
    rw [hf] at k
    cases hm : mergeN o n with
    | none => simp only [hm] at k; rw [h] at k; cases k
    | some m =>
      simp only [hm] at k
      obtain ⟨l2, e1, e2, e3, e4, _⟩ := k
      rw [h] at e1; cases e1
      refine ⟨e2, by omega, fun z hz => ?_⟩
      rcases e4 z hz with rfl | hz
      · rcases mergeN_or hm with rfl | rfl
        · exact .inr (findG_some hf).1
        · exact .inl rfl
      · exact .inr hz
theorem insAll_mem : ∀ {r acc l' : List Nd}, SN acc → insAll acc r = some l' → SN l' ∧ l'.length ≤ acc.length + r.length ∧ ∀ z, z ∈ l' → z ∈ acc ∨ z ∈ r
  | [], acc, l', hs, h => by
    unfold insAll at h
    cases h
    exact ⟨hs, by simp, fun z hz => .inl hz⟩
  | n :: r, acc, l', hs, h => by
    unfold insAll at h
    cases hi : insN acc n with
    | none => rw [hi] at h; cases h
    | some a =>
      rw [hi] at h
      obtain ⟨h1, h2, h3⟩ := insN_mem hs hi
      obtain ⟨k1, k2, k3⟩ := insAll_mem h1 h
      refine ⟨k1, by simp only [List.length_cons]; omega, fun z hz => ?_⟩
      rcases k3 z hz with hz | hz
      · rcases h3 z hz with rfl | hz
        · exact .inr (by simp)
        · exact .inl hz
      · exact .inr (by simp [hz])
theorem unionR_mem (l : List (List Nd)) : SN (unionR l).1 ∧ (unionR l).1.length ≤ l.flatten.length ∧ ∀ z, z ∈ (unionR l).1 → z ∈ l.flatten := by
  unfold unionR
  split
  · cases hi : insAll [] l.flatten with
    | none => exact ⟨by simp [resU, SN], by simp [resU], by simp [resU]⟩
    | some a =>
      obtain ⟨k1, k2, k3⟩ := insAll_mem List.Pairwise.nil hi
      refine ⟨k1, by simpa [resU] using k2, fun z hz => ?_⟩
      rcases k3 z hz with h | h
      · simp at h
      · exact h
  · exact ⟨by simp [SN], by simp, by simp⟩
theorem Small.graph {vs : List View} (s : Small vs) : SN (graphR vs).1 ∧ (graphR vs).1.length ≤ 1000000 ∧ ∀ n, n ∈ (graphR vs).1 → n.fields.length ≤ 1000 := by
  obtain ⟨h1, h2, h3⟩ := unionR_mem (graphParts vs)
  rw [graphR]
  refine ⟨h1, Nat.le_trans h2 s.parts, fun n hn => ?_⟩
  have := h3 n hn
  rw [graphParts, List.flatten_append, List.mem_append] at this
  rcases this with h | h
  · simp only [List.mem_flatten, List.mem_map] at h
    obtain ⟨_, ⟨v, hv, rfl⟩, hn⟩ := h
    have := s.fields v hv n hn; omega
  · simp only [movedG, List.mem_flatten, List.mem_map, List.mem_filter] at h
    obtain ⟨_, ⟨i, ⟨hi, _⟩, rfl⟩, hn⟩ := h
    obtain ⟨hv, hx⟩ := flightsOf_mem hi
    have := s.moved _ hv _ hx
    simp only [List.mem_singleton] at hn
    subst hn
    simp only [movedOf, List.length_map]; omega
/-- what the fleet reaches -/
noncomputable def reachR (vs : List View) : List ID := if (graphR vs).2 = 0 then reachL (graphR vs).1 (rootsR vs) else []
theorem Small.reach {vs : List View} (s : Small vs) : (reachR vs).length ≤ 1000000 := by
  unfold reachR
  split
  · exact Nat.le_trans (reachL_length _ _) s.graph.2.1
  · simp
attribute [local irreducible] reachR
theorem reachable_s {h : Frag} {a : Value} {vs : List View} (hs : SL h 13 (ViewC 4398046511104) a vs) (sm : Small vs) : PSpec Tryz.prog 12 #[a] h (fun h' v => ∃ p c, v = .slice p (reachR vs).length c ∧ SL h' 2 IDC (.slice p (reachR vs).length c) (reachR vs)) := by
  obtain ⟨_, hgl, hgf⟩ := sm.graph
  have hrl := roots_len sm
  have hrr := sm.reach
  refine pspec_of (vs := [a]) Tryz.func12 Tryz.ntmps12 rfl rfl ?_
  (focus (refine Wr ?_; refine Tm ?_; refine On ?_; refine Wr ?_; refine Tm ?_; refine S_c rfl rfl rfl (C_call (graph_s ‹_› ‹_›) rfl rfl ⟨_, _, rfl, rfl, rfl⟩ (cal rfl) ?_); rintro h0_1 _ l0_1 ⟨_, rfl, pg0_1, qg0_1, rfl, fg0_1⟩; replace hs := hs.up l0_1; refine Tm ?_; refine Tx ?_; refine Tx ?_; refine Tal ?_; intro b0_2; refine Tw u0 ?_; refine Tm ?_; refine On ?_; refine WP_seq ?_; refine Wr ?_; refine Tm ?_; refine Tc ?_; refine On ?_; refine Wc ?_ ?_ <;> intro c0_3 <;> (first | simp [*] at c0_3; done | try simp at c0_3); (focus (refine Wr ?_; refine Tm ?_; refine On ?_; refine WP_ret ?_; refine then_r ?_)); rotate_left 1; (focus (refine WP_skip ?_; refine then_n ?_; refine WP_seq ?_; refine R_draw (n := 5) mixed rfl ?_; refine Va 0 ?_; refine Vl 1 ?_; refine Lg m0 ?_; refine Va 1 ?_; refine Vm 3 ?_; refine Va 2 ?_; refine A_c (m' := 7) rfl rfl rfl rfl (by decide +kernel) (C_call (roots_s ‹_› ‹_›) rfl rfl ⟨_, _, rfl, rfl, rfl⟩ (cal rfl) ?_); rintro h0_4 _ l0_4 ⟨p0_4, q0_4, rfl, f0_4⟩; replace fg0_1 := fg0_1.up l0_4; replace hs := hs.up l0_4; refine Va 3 ?_; refine A_c (m' := 15) rfl rfl rfl rfl (by decide +kernel) (C_callF (reach_s ⟨_, _, rfl, by assumption⟩ ‹_› (by omega) (by omega) ‹_›) rfl rfl ⟨_, _, rfl, ⟨_, _, rfl, rfl, rfl⟩, rfl⟩ (cal rfl) ?_); rintro h0_5 m0_5 _ l0_5 ⟨p0_5, q0_5, rfl, o0_5⟩; replace f0_4 := f0_4.up l0_5; replace fg0_1 := fg0_1.up l0_5; replace hs := hs.up l0_5; refine Va 4 ?_; refine Vs 31 ?_; refine A_done (by decide +kernel) ?_; refine then_n ?_; refine WP_ret ?_)); rotate_left 1))
  · refine pret (.inl rfl) rfl ⟨_, _, rfl, rfl, rfl⟩ ?_
    rw [reachR, if_neg c0_3]
    exact ⟨_, _, rfl, SLB.nil _ _ _ _ _ _⟩
  · have hre : reachR vs = reachL (graphR vs).1 (rootsR vs) := by rw [reachR, if_pos c0_3]
    rw [hre] at hrr ⊢
    refine pretKM [] m0_5 _ rfl (.inl rfl) rfl ⟨_, _, rfl, rfl, rfl⟩ fun h' hl' hm => ?_
    exact ⟨_, _, rfl, o0_5.sl hl' IDC_mono hm (by omega)⟩
/-- how many are not reached -/
noncomputable def deadN (live : List ID) (l : List ID) : Nat := (l.filter fun x => !decide (x ∈ live)).length
def objsL (l : List Nd) : List ID := (l.filter fun n => decide (n.kind ≠ 3)).map (·.id)
def viewObjs (v : View) : List ID := objsL v.objects
noncomputable def garbageOf (live : List ID) (v : View) : Nat := deadN live (viewObjs v) + deadN live (v.stubs.map (·.id)) + deadN live (v.scions.map (·.id))
noncomputable def garbageR (vs : List View) : Nat := (vs.map (garbageOf (reachR vs))).sum
theorem deadN_nil (live : List ID) : deadN live [] = 0 := rfl
theorem deadN_snoc (live l : List ID) (x : ID) : deadN live (l ++ [x]) = deadN live l + (if x ∈ live then 0 else 1) := by
  rw [deadN, deadN, List.filter_append, List.length_append]
  by_cases h : x ∈ live <;> simp [h]
theorem deadN_le (live l : List ID) : deadN live l ≤ l.length := by rw [deadN]; exact List.length_filter_le _ _
theorem viewObjs_le (v : View) : (viewObjs v).length ≤ v.objects.length := by rw [viewObjs, objsL, List.length_map]; exact List.length_filter_le _ _
theorem garbageOf_le {vs : List View} (s : Small vs) (live : List ID) {v : View} (hv : v ∈ vs) : garbageOf live v ≤ 36 := by
  have h1 := deadN_le live (viewObjs v)
  have h2 := deadN_le live (v.stubs.map (·.id))
  have h3 := deadN_le live (v.scions.map (·.id))
  have h4 := viewObjs_le v
  have h5 := s.objs v hv
  have h6 := s.stubs v hv
  have h7 := s.scions v hv
  rw [List.length_map] at h2 h3
  rw [garbageOf]; omega
theorem sum_le (f : View → Nat) (k : Nat) : ∀ l : List View, (∀ v, v ∈ l → f v ≤ k) → (l.map f).sum ≤ l.length * k
  | [], _ => by simp
  | v :: l, h => by
    have h1 := h v (by simp)
    have h2 := sum_le f k l fun w hw => h w (by simp [hw])
    simp only [List.map_cons, List.sum_cons, List.length_cons, Nat.add_mul, Nat.one_mul]; omega
theorem sum_take (f : View → Nat) {l : List View} {k : Nat} {v : View} (hv : l[k]? = some v) : ((l.take (k + 1)).map f).sum = ((l.take k).map f).sum + f v := by
  rw [List.take_add_one, hv]; simp
theorem objsL_take {l : List Nd} {j : Nat} {n : Nd} (hn : l[j]? = some n) : objsL (l.take (j + 1)) = objsL (l.take j) ++ (if n.kind = 3 then [] else [n.id]) := by
  rw [objsL, objsL, List.take_add_one, hn]
  by_cases h : n.kind = 3 <;> simp [h]
theorem mapid_take {α : Type} (f : α → ID) {l : List α} {j : Nat} {n : α} (hn : l[j]? = some n) : (l.take (j + 1)).map f = (l.take j).map f ++ [f n] := by
  rw [List.take_add_one, hn]; simp
theorem deadN_take_le (live l : List ID) (k : Nat) (h : l.length ≤ k) : deadN live l ≤ k := Nat.le_trans (deadN_le live l) h
theorem objsL_le (l : List Nd) : (objsL l).length ≤ l.length := by rw [objsL, List.length_map]; exact List.length_filter_le _ _
theorem viewObjs_def (v : View) : viewObjs v = objsL v.objects := rfl
theorem garbageOf_def (live : List ID) (v : View) : garbageOf live v = deadN live (viewObjs v) + deadN live (v.stubs.map (·.id)) + deadN live (v.scions.map (·.id)) := rfl
theorem objsL_nil : objsL [] = [] := rfl
attribute [local irreducible] deadN viewObjs garbageOf garbageR objsL
theorem garbage1_s {h : Frag} {a : Value} {live : List ID} {x : ID} {b3 b4 n : Nat} (h3 : At h b3 0 [a]) (hl : SL h 2 IDC a live) (hn : n ≤ 1000000) : FSpec Tryz.prog 70 #[.agg (idc x).toArray, ptr b3 0, ptr b4 0] h [(b4, cells [.int .i64 (n : Int)] 3)]
    (fun h' L' _ => h' = h ∧ L' = [(b4, cells [.int .i64 ((n + (if x ∈ live then 0 else 1) : Nat) : Int)] 3)]) := by
  obtain ⟨x1, x2⟩ := x
  refine spec_of (vs := [.agg (idc (x1, x2)).toArray, ptr b3 0, ptr b4 0]) Tryz.func70 Tryz.ntmps70 rfl rfl rfl ?_
  (focus (refine Wr ?_; refine Tbx ?_; intro b0_1; refine On ?_; refine Wr ?_; refine Tl ?_; refine L_one (Rd.pers ‹_›) (ty rfl) ?_; refine Tl ?_; refine Lg m0 ?_; refine S_c rfl rfl rfl (C_callv (has_s (x := (_, _)) ‹_›) rfl rfl ⟨_, _, rfl, ⟨_, _, rfl, rfl, rfl⟩, rfl⟩ (cal rfl) ?_); refine S_q rfl rfl rfl (Q_not rfl rfl) ?_; refine On ?_; refine Wc ?_ ?_ <;> intro c0_2 <;> (first | simp [*] at c0_2; done | try simp at c0_2); (focus (refine R_region ?_; refine Tl ?_; refine L_one (Rd.own m1) (ty rfl) ?_; refine Ta ?_; refine S_w0 rfl rfl (W_one rfl rfl rfl (ty rfl) u1 rfl rfl rfl ?_); refine OPS_nil ?_)); rotate_left 1; (focus (refine WP_skip ?_)); rotate_left 1))
  · refine ret_q [(b4, cells [.int .i64 ((n : Int) + 1)] 3)] (.inr rfl) rfl rfl (by repeat' first | exact sR _ | exact sA _ _ | exact sN _ | apply s2 | apply s1) ⟨rfl, ?_⟩
    rw [if_neg c0_2]; simp
  · refine ret_q [(b4, cells [.int .i64 (n : Int)] 3)] (.inr rfl) rfl rfl (by repeat' first | exact sR _ | exact sA _ _ | exact sN _ | apply s2 | apply s1) ⟨rfl, ?_⟩
    rw [if_pos c0_2]; simp
theorem garbage_s {h : Frag} {a : Value} {vs : List View} (hs : SL h 13 (ViewC 4398046511104) a vs) (sm : Small vs) : PSpec Tryz.prog 27 #[a] h (fun _ v => v = .int .i64 ((garbageR vs : Nat) : Int)) := by
  have hlen := sm.len
  obtain ⟨pv, cv, rfl⟩ := hs.slice
  refine pspec_of (vs := [.slice pv vs.length cv]) Tryz.func27 Tryz.ntmps27 rfl rfl ?_
  (focus (refine Wr ?_; refine Tm ?_; refine On ?_; refine Wr ?_; refine Tm ?_; refine S_c rfl rfl rfl (C_call (reachable_s ‹_› ‹_›) rfl rfl ⟨_, _, rfl, rfl, rfl⟩ (cal rfl) ?_); rintro h0_1 _ l0_1 ⟨p0_1, q0_1, rfl, f0_1⟩; replace hs := hs.up l0_1; refine Tal ?_; intro b0_2; refine S_w0 rfl rfl (W_one rfl rfl rfl (ty rfl) u0 rfl rfl rfl ?_); refine On ?_; refine Wr ?_; refine Tal ?_; intro b0_3; refine S_w0 rfl rfl (W_one rfl rfl rfl (ty rfl) u0 rfl rfl rfl ?_); refine On ?_; refine Wr ?_; refine S_q rfl rfl rfl (Q_makeFunc rfl rfl ⟨_, _, rfl, ⟨_, _, rfl, rfl, rfl⟩, rfl⟩) ?_; refine Tm ?_; refine On ?_; refine WP_seq ?_; refine Wr ?_; refine Tm ?_; refine Tlen ?_; refine Tm ?_; refine On ?_; refine WP_block ?_))
  (focus (refine WP_keepM [_] [_] _ rfl ?_; rintro h1_k l1_k k1_k; have a1_k := at_of_keep k1_k; clear k1_k; replace f0_1 := f0_1.up l1_k; replace hs := hs.up l1_k))
  (refine WP_loopF (α := Nat × Nat) [18, 17, 5, 4] (fun (s : Nat × Nat) => vs.length - s.1) (fun (s : Nat × Nat) => [(b0_3, cells [.int .i64 (s.2 : Int)] 3)]) (fun (s : Nat × Nat) => [(19, .int .i64 (s.1 : Int))]) (fun hh (s : Nat × Nat) => hh = h1_k ∧ s.1 ≤ vs.length ∧ s.2 = ((vs.take s.1).map (garbageOf (reachR vs))).sum) (0, 0) ⟨_, _, rfl, ⟨_, _, rfl, ⟨_, _, rfl, ⟨_, _, rfl, rfl, rfl⟩, rfl⟩, rfl⟩, rfl⟩ ?_ (by repeat' first | exact sR _ | exact sA _ _ | exact sN _ | apply s2 | apply s1) (by repeat' first | exact trivial | refine ⟨rfl, ?_⟩) ?_)
  · exact ⟨rfl, Nat.zero_le _, rfl⟩
  rintro h1 ⟨k, n⟩ _ ⟨rfl, hk, hn⟩
  simp only at hk hn
  dsimp only
  have hnl : n ≤ 200 := by
    have := sum_le (garbageOf (reachR vs)) 36 (vs.take k) fun v hv => garbageOf_le sm _ (List.mem_of_mem_take hv)
    rw [List.length_take] at this
    rw [hn]; omega
  by_cases hlt : k < vs.length
  · obtain ⟨v, ev⟩ := get_of hlt
    have hvm : v ∈ vs := List.mem_of_getElem? ev
    have ho := sm.objs v hvm
    have hst := sm.stubs v hvm
    have hsc := sm.scions v hvm
    have hsum := sum_take (garbageOf (reachR vs)) ev
    (focus (refine Wr ?_; refine Tc ?_; refine On ?_; refine WP_seq ?_; refine Wc ?_ ?_ <;> intro c3_1 <;> (first | simp [*] at c3_1; done | try simp at c3_1); refine WP_skip ?_; refine then_n ?_; refine WP_seq ?_; refine WP_block ?_; refine Wr ?_; refine Ti ?_; refine Tl ?_; refine Le ?_; rintro _ _ _ ⟨xi3_2, xa3_2, po3_2, qo3_2, ps3_2, qs3_2, pc3_2, qc3_2, pn3_2, qn3_2, pm3_2, qm3_2, xw3_2, xv3_2, pf3_2, qf3_2, pr3_2, qr3_2, xe3_2, xf3_2, rfl, vo3_2, vs3_2, vc3_2, vn3_2, vm3_2, vf3_2, vr3_2⟩; refine Tal ?_; intro b3_3; refine Tw u0 ?_; refine On ?_; refine WP_seq ?_; refine Wr ?_; refine Tf ?_; refine Tf ?_; refine Tl ?_; refine L_fld2 (Rd.own m0) ?_; refine LV_1 (ty rfl) rfl ?_; refine Tlen ?_; refine Tm ?_; refine On ?_; refine WP_block ?_))
    (refine WP_loopM (α := Nat × Nat) [_]  _ [26, 25, 7, 19, 18, 17, 5, 4] (fun (s : Nat × Nat) => v.objects.length - s.1) (fun (s : Nat × Nat) =>  [(b0_3, cells [.int .i64 (s.2 : Int)] 3)]) (fun (s : Nat × Nat) => [(27, .int .i64 (s.1 : Int))]) (fun hh (s : Nat × Nat) => hh = h1 ∧ s.1 ≤ v.objects.length ∧ s.2 = n + deadN (reachR vs) (objsL (v.objects.take s.1))) (0, n) rfl ⟨_, _, rfl, ⟨_, _, rfl, ⟨_, _, rfl, ⟨_, _, rfl, ⟨_, _, rfl, ⟨_, _, rfl, ⟨_, _, rfl, ⟨_, _, rfl, rfl, rfl⟩, rfl⟩, rfl⟩, rfl⟩, rfl⟩, rfl⟩, rfl⟩, rfl⟩ (by repeat' first | exact trivial | refine ⟨rfl, ?_⟩) ?_ ?_)
    · exact ⟨rfl, Nat.zero_le _, by simp [objsL_nil, deadN_nil]⟩
    rintro h2 ⟨j, n2⟩ _ ⟨rfl, hj, hn2⟩
    simp only at hj hn2
    dsimp only
    have hb2 := deadN_take_le (reachR vs) (objsL (v.objects.take j)) 12 (Nat.le_trans (objsL_le _) (by rw [List.length_take]; omega))
    by_cases hlt2 : j < v.objects.length
    · obtain ⟨x, ex⟩ := get_of hlt2
      have htk := objsL_take ex
      (focus (refine Wr ?_; refine Tc ?_; refine On ?_; refine WP_seq ?_; refine Wc ?_ ?_ <;> intro c5_1 <;> (first | simp [*] at c5_1; done | try simp at c5_1); refine WP_skip ?_; refine then_n ?_; refine WP_seq ?_; refine WP_block ?_; refine Wr ?_; refine Ti ?_; refine Tl ?_; refine Le ?_; rintro _ _ _ ⟨pn5_2, qn5_2, rfl, fn5_2⟩; refine Tal ?_; intro b5_3; refine Tw u0 ?_; refine On ?_; refine Wr ?_; refine Tf ?_; refine Tl ?_; refine Lo m0 ?_; refine Tc ?_; refine On ?_; refine Wc ?_ ?_ <;> intro c5_4 <;> (first | simp [*] at c5_4; done | try simp at c5_4); (focus (refine R_region ?_; refine Tm ?_; refine Tf ?_; refine Tl ?_; refine L_sub (Rd.own m0) (ty rfl) rfl ?_)); rotate_left 1; (focus (refine WP_skip ?_; refine block_n ?_; refine then_n ?_; refine R_region ?_; refine Ta ?_; refine Tm ?_; refine OPS_nil ?_)); rotate_left 1))
      · refine S_w rfl rfl rfl (W_callC (vs := [.agg (idc x.id).toArray]) (cap := [ptr b0_2 0, ptr b0_3 0]) [_, _] _ (garbage1_s a1_k f0_1 (by omega)) rfl rfl rfl ⟨_, _, rfl, rfl, rfl⟩ (cal rfl) rfl ?_)
        rintro hq Lq _ hlq ⟨rfl, rfl⟩
        (focus (refine OPS_nil ?_; refine block_n ?_; refine then_n ?_; refine R_region ?_; refine Ta ?_; refine Tm ?_; refine OPS_nil ?_))
        refine roundF_n (j + 1, _) (by simp only; omega) ⟨rfl, by simp only; omega, ?_⟩ (by repeat' first | exact sR _ | exact sA _ _ | exact sN _ | apply s2 | apply s1) (by repeat' first | exact trivial | refine ⟨rfl, ?_⟩)
        simp only; rw [htk, if_neg c5_4, deadN_snoc, hn2]; omega
      · refine roundF_n (j + 1, n2) (by simp only; omega) ⟨rfl, by simp only; omega, ?_⟩ (by repeat' first | exact sR _ | exact sA _ _ | exact sN _ | apply s2 | apply s1) (by repeat' first | exact trivial | refine ⟨rfl, ?_⟩)
        simp only; rw [htk, if_pos c5_4, List.append_nil, hn2]
    have hge : j = v.objects.length := by omega
    subst hge
    rw [List.take_length, ← viewObjs_def] at hn2
    rw [List.take_length, ← viewObjs_def] at hb2
    (focus (refine Wr ?_; refine Tc ?_; refine On ?_; refine WP_seq ?_; refine Wc ?_ ?_ <;> intro c7_1 <;> (first | simp [*] at c7_1; done | try simp at c7_1); refine WP_exit ?_; refine then_e ?_; refine roundF_e ?_; refine block_e ?_; refine then_n ?_; refine WP_seq ?_; refine Wr ?_; refine Tf ?_; refine Tl ?_; refine Lo m0 ?_; refine Tlen ?_; refine Tm ?_; refine On ?_; refine WP_block ?_))
    (refine WP_loopM (α := Nat × Nat) [_]  _ [41, 40, 7, 19, 18, 17, 5, 4] (fun (s : Nat × Nat) => v.stubs.length - s.1) (fun (s : Nat × Nat) =>  [(b0_3, cells [.int .i64 (s.2 : Int)] 3)]) (fun (s : Nat × Nat) => [(42, .int .i64 (s.1 : Int))]) (fun hh (s : Nat × Nat) => hh = h2 ∧ s.1 ≤ v.stubs.length ∧ s.2 = n2 + deadN (reachR vs) ((v.stubs.take s.1).map (·.id))) (0, n2) rfl ⟨_, _, rfl, ⟨_, _, rfl, ⟨_, _, rfl, ⟨_, _, rfl, ⟨_, _, rfl, ⟨_, _, rfl, ⟨_, _, rfl, ⟨_, _, rfl, rfl, rfl⟩, rfl⟩, rfl⟩, rfl⟩, rfl⟩, rfl⟩, rfl⟩, rfl⟩ (by repeat' first | exact trivial | refine ⟨rfl, ?_⟩) ?_ ?_)
    · exact ⟨rfl, Nat.zero_le _, by simp [deadN_nil]⟩
    rintro h3 ⟨j, n3⟩ _ ⟨rfl, hj, hn3⟩
    simp only at hj hn3
    dsimp only
    have hb3 := deadN_take_le (reachR vs) ((v.stubs.take j).map (·.id)) 12 (by rw [List.length_map, List.length_take]; omega)
    by_cases hlt3 : j < v.stubs.length
    · obtain ⟨x, ex⟩ := get_of hlt3
      have htk := mapid_take (·.id) ex
      (focus (refine Wr ?_; refine Tc ?_; refine On ?_; refine WP_seq ?_; refine Wc ?_ ?_ <;> intro c9_1 <;> (first | simp [*] at c9_1; done | try simp at c9_1); refine WP_skip ?_; refine then_n ?_; refine WP_seq ?_; refine WP_block ?_; refine Wr ?_; refine Ti ?_; refine Tl ?_; refine Le ?_; rintro _ _ _ ⟨xa9_2, xb9_2, xc9_2, xd9_2, xe9_2, xf9_2, rfl⟩; refine Tal ?_; intro b9_3; refine Tw u0 ?_; refine On ?_; refine R_region ?_; refine Tm ?_; refine Tf ?_; refine Tl ?_; refine L_sub (Rd.own m0) (ty rfl) rfl ?_))
      refine S_w rfl rfl rfl (W_callC (vs := [.agg (idc x.id).toArray]) (cap := [ptr b0_2 0, ptr b0_3 0]) [_, _] _ (garbage1_s a1_k f0_1 (by omega)) rfl rfl rfl ⟨_, _, rfl, rfl, rfl⟩ (cal rfl) rfl ?_)
      rintro hq Lq _ hlq ⟨rfl, rfl⟩
      (focus (refine OPS_nil ?_; refine block_n ?_; refine then_n ?_; refine R_region ?_; refine Ta ?_; refine Tm ?_; refine OPS_nil ?_))
      refine roundF_n (j + 1, _) (by simp only; omega) ⟨rfl, by simp only; omega, ?_⟩ (by repeat' first | exact sR _ | exact sA _ _ | exact sN _ | apply s2 | apply s1) (by repeat' first | exact trivial | refine ⟨rfl, ?_⟩)
      simp only; rw [htk, deadN_snoc, hn3]; omega
    have hge : j = v.stubs.length := by omega
    subst hge
    rw [List.take_length] at hn3 hb3
    (focus (refine Wr ?_; refine Tc ?_; refine On ?_; refine WP_seq ?_; refine Wc ?_ ?_ <;> intro c11_1 <;> (first | simp [*] at c11_1; done | try simp at c11_1); refine WP_exit ?_; refine then_e ?_; refine roundF_e ?_; refine block_e ?_; refine then_n ?_; refine Wr ?_; refine Tf ?_; refine Tl ?_; refine Lo m0 ?_; refine Tlen ?_; refine Tm ?_; refine On ?_; refine WP_block ?_))
    (refine WP_loopM (α := Nat × Nat) [_]  _ [53, 52, 19, 18, 17, 5, 4] (fun (s : Nat × Nat) => v.scions.length - s.1) (fun (s : Nat × Nat) =>  [(b0_3, cells [.int .i64 (s.2 : Int)] 3)]) (fun (s : Nat × Nat) => [(54, .int .i64 (s.1 : Int))]) (fun hh (s : Nat × Nat) => hh = h3 ∧ s.1 ≤ v.scions.length ∧ s.2 = n3 + deadN (reachR vs) ((v.scions.take s.1).map (·.id))) (0, n3) rfl ⟨_, _, rfl, ⟨_, _, rfl, ⟨_, _, rfl, ⟨_, _, rfl, ⟨_, _, rfl, ⟨_, _, rfl, ⟨_, _, rfl, rfl, rfl⟩, rfl⟩, rfl⟩, rfl⟩, rfl⟩, rfl⟩, rfl⟩ (by repeat' first | exact trivial | refine ⟨rfl, ?_⟩) ?_ ?_)
    · exact ⟨rfl, Nat.zero_le _, by simp [deadN_nil]⟩
    rintro h4 ⟨j, n4⟩ _ ⟨rfl, hj, hn4⟩
    simp only at hj hn4
    dsimp only
    have hb4 := deadN_take_le (reachR vs) ((v.scions.take j).map (·.id)) 12 (by rw [List.length_map, List.length_take]; omega)
    by_cases hlt4 : j < v.scions.length
    · obtain ⟨x, ex⟩ := get_of hlt4
      have htk := mapid_take (·.id) ex
      (focus (refine Wr ?_; refine Tc ?_; refine On ?_; refine WP_seq ?_; refine Wc ?_ ?_ <;> intro c13_1 <;> (first | simp [*] at c13_1; done | try simp at c13_1); refine WP_skip ?_; refine then_n ?_; refine WP_seq ?_; refine WP_block ?_; refine Wr ?_; refine Ti ?_; refine Tl ?_; refine Le ?_; rintro _ _ _ ⟨xa13_2, xb13_2, xc13_2, xd13_2, xe13_2, xf13_2, xg13_2, xh13_2, rfl⟩; refine Tal ?_; intro b13_3; refine Tw u0 ?_; refine On ?_; refine R_region ?_; refine Tm ?_; refine Tf ?_; refine Tl ?_; refine L_sub (Rd.own m0) (ty rfl) rfl ?_))
      refine S_w rfl rfl rfl (W_callC (vs := [.agg (idc x.id).toArray]) (cap := [ptr b0_2 0, ptr b0_3 0]) [_, _] _ (garbage1_s a1_k f0_1 (by omega)) rfl rfl rfl ⟨_, _, rfl, rfl, rfl⟩ (cal rfl) rfl ?_)
      rintro hq Lq _ hlq ⟨rfl, rfl⟩
      (focus (refine OPS_nil ?_; refine block_n ?_; refine then_n ?_; refine R_region ?_; refine Ta ?_; refine Tm ?_; refine OPS_nil ?_))
      refine roundF_n (j + 1, _) (by simp only; omega) ⟨rfl, by simp only; omega, ?_⟩ (by repeat' first | exact sR _ | exact sA _ _ | exact sN _ | apply s2 | apply s1) (by repeat' first | exact trivial | refine ⟨rfl, ?_⟩)
      simp only; rw [htk, deadN_snoc, hn4]; omega
    have hge : j = v.scions.length := by omega
    subst hge
    rw [List.take_length] at hn4 hb4
    (focus (refine Wr ?_; refine Tc ?_; refine On ?_; refine WP_seq ?_; refine Wc ?_ ?_ <;> intro c15_1 <;> (first | simp [*] at c15_1; done | try simp at c15_1); refine WP_exit ?_; refine then_e ?_; refine roundF_e ?_; refine block_e ?_; refine block_n ?_; refine then_n ?_; refine R_region ?_; refine Ta ?_; refine Tm ?_; refine OPS_nil ?_))
    refine roundF_n (k + 1, n4) (by simp only; omega) ⟨rfl, by simp only; omega, ?_⟩ (by repeat' first | exact sR _ | exact sA _ _ | exact sN _ | apply s2 | apply s1) (by repeat' first | exact trivial | refine ⟨rfl, ?_⟩)
    simp only; rw [hsum, ← hn, hn4, hn3, hn2, garbageOf_def]; omega
  · have hge : k = vs.length := by omega
    subst hge
    rw [List.take_length] at hn
    (focus (refine Wr ?_; refine Tc ?_; refine On ?_; refine WP_seq ?_; refine Wc ?_ ?_ <;> intro c16_1 <;> (first | simp [*] at c16_1; done | try simp at c16_1); refine WP_exit ?_; refine then_e ?_; refine roundF_e ?_; refine block_e ?_; refine then_n ?_; refine Wr ?_; refine Tl ?_; refine L_one (Rd.own m0) (ty rfl) ?_; refine Tm ?_; refine On ?_; refine WP_ret ?_))
    refine pret (.inl rfl) rfl ⟨_, _, rfl, rfl, rfl⟩ ?_
    simp only [resOf]; rw [hn, garbageR]
end Go.Proofs.YtfhoecgiahpddaaGreat
