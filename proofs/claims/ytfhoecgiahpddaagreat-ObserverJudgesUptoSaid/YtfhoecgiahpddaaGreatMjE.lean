/-
  Part E of the proof's ground: Gn, Jc, Jd, Jf, Je, Draws4, Draws5, Jh, Jk, Ja, Jb, Od, Oe, Ji.
-/
import Derived.Test.YtfhoecgiahpddaaGreatMjA
import Derived.Test.YtfhoecgiahpddaaGreatMjB
import Derived.Test.YtfhoecgiahpddaaGreatMjC
import Derived.Test.YtfhoecgiahpddaaGreatMjD
/-
  CONTRACTS: the reference's roots and what it reaches (refmeshref55.Roots, Reachable).
-/
set_option linter.all false
namespace Go.Proofs.YtfhoecgiahpddaaGreat
open Go.Mesh Go.RowKit
set_option maxRecDepth 100000
set_option linter.unusedVariables false
set_option maxHeartbeats 4000000
attribute [local irreducible] WP OPS ANY ANYo LG LV FSpec PSpec QOP OPc OPw thenQ blockQ roundQ roundF retQ retM Rd At SLB OS cmpI orI cmpID namedB valB nodeB kindB validG valAux idxI findG zeroV viewOf vwAt idxOf recv flyB scionOf moveOf numberedOf idOf valueOf mget mput localB carriedB msgB sizesB smallV fewB stubOf followF followOf flOf flightsOf flPre setL minusL compactL putI mergeN insN insAll unionR NMap Coll retN bodyS GMap Dfs refsV refsOf reachL movedOf movedG graphParts graphR isMove flightIDs mailIDs viewIDs rawRoots rootsR refFl refMoved refPut keepL Bfs reachR deadN viewObjs garbageOf garbageR objsL
/-- the reference's roots, as it lists them -/
def refView1 (vs : List View) (v : View) : List ID := v.names ++ v.mail.flatMap mailIDs ++ (v.flights.filter (flyB vs v)).flatMap (refFl vs v.machine)
def refRaw (vs : List View) : List ID := vs.flatMap (refView1 vs)
theorem refFl_mem (vs : List View) (v : View) (x : Flight) (z : ID) : z ∈ refFl vs v.machine x ↔ z ∈ flightIDs vs (v, x) := by
  unfold refFl flightIDs
  simp only
  split
  · simp only [List.mem_append, List.mem_cons, List.not_mem_nil, or_false]; exact Or.comm
  · rfl
theorem refRaw_mem (vs : List View) (z : ID) : z ∈ refRaw vs ↔ z ∈ rawRoots vs := by
  simp only [refRaw, rawRoots, refView1, viewIDs, flightsOf, flOf, List.mem_flatMap, List.mem_append, List.mem_map, refFl_mem]
  constructor
  · rintro ⟨v, hv, (h | h) | ⟨x, hx, h⟩⟩
    · exact .inl ⟨v, hv, .inl h⟩
    · exact .inl ⟨v, hv, .inr h⟩
    · exact .inr ⟨(v, x), ⟨v, hv, x, hx, rfl⟩, h⟩
  · rintro (⟨v, hv, h | h⟩ | ⟨_, ⟨v, hv, x, hx, rfl⟩, h⟩)
    · exact ⟨v, hv, .inl (.inl h)⟩
    · exact ⟨v, hv, .inl (.inr h)⟩
    · exact ⟨v, hv, .inr ⟨x, hx, h⟩⟩
theorem refRaw_roots (vs : List View) : minusL (setL (refRaw vs)) [(0, 0)] = rootsR vs := by
  have : setL (refRaw vs) = setL (rawRoots vs) := SI_unique (SI_setL _) (SI_setL _) fun z => by rw [mem_setL, mem_setL, refRaw_mem]
  rw [rootsR, this]
theorem refFl_len {vs : List View} (s : Small vs) {v : View} (hv : v ∈ vs) {x : Flight} (hx : x ∈ v.flights) : (refFl vs v.machine x).length ≤ 28 := by
  have h1 := s.letter _ hv _ hx
  have h2 := s.pmail _ hv _ hx
  have h3 := flatMap_le (fun l : List Ref => x.msg.parcel.id :: l.map (idOf vs v.machine x.to)) 7 x.msg.parcel.mail (fun m hm => by
    have := s.pargs _ hv _ hx m hm
    simp; omega)
  unfold refFl
  split
  · simp; omega
  split
  · simp
  split
  · omega
  · simp
theorem refView1_len {vs : List View} (s : Small vs) {v : View} (hv : v ∈ vs) : (refView1 vs v).length ≤ 216 := by
  have h1 := viewIDs_len s hv
  have h2 := flatMap_le (refFl vs v.machine) 28 (v.flights.filter (flyB vs v)) fun x hx => refFl_len s hv (List.mem_filter.1 hx).1
  have h3 := List.length_filter_le (flyB vs v) v.flights
  have h4 := s.flights v hv
  rw [viewIDs, List.length_append] at h1
  rw [refView1, List.length_append, List.length_append]; omega
theorem refRaw_take_len {vs : List View} (s : Small vs) (k : Nat) : ((vs.take k).flatMap (refView1 vs)).length ≤ 1080 := by
  have h1 := flatMap_le (refView1 vs) 216 (vs.take k) fun v hv => refView1_len s (List.mem_of_mem_take hv)
  have h2 : (vs.take k).length ≤ 5 := by rw [List.length_take]; have := s.len; omega
  omega
theorem mailIDs_len {vs : List View} (s : Small vs) {v : View} (hv : v ∈ vs) (i : Nat) : ((v.mail.take i).flatMap mailIDs).length ≤ 42 := by
  have ha6 := s.args v hv
  have hm6 := s.mail v hv
  have := flatMap_le mailIDs 7 (v.mail.take i) (fun m hm => by
    have h1 := ha6 m (List.mem_of_mem_take hm)
    have h2 := refsV_length m.args
    simp [mailIDs]; omega)
  rw [List.length_take] at this
  omega
theorem refFls_len {vs : List View} (s : Small vs) {v : View} (hv : v ∈ vs) (i : Nat) : (((v.flights.take i).filter (flyB vs v)).flatMap (refFl vs v.machine)).length ≤ 168 := by
  have h2 := flatMap_le (refFl vs v.machine) 28 ((v.flights.take i).filter (flyB vs v)) fun x hx => refFl_len s hv (List.mem_of_mem_take (List.mem_filter.1 hx).1)
  have h3 := List.length_filter_le (flyB vs v) (v.flights.take i)
  have h4 := s.flights v hv
  rw [List.length_take] at h3
  omega
theorem refFls_yes {vs : List View} {v : View} {j : Nat} {x : Flight} (hx : v.flights[j]? = some x) (hf : flyB vs v x = true) : ((v.flights.take (j + 1)).filter (flyB vs v)).flatMap (refFl vs v.machine) = ((v.flights.take j).filter (flyB vs v)).flatMap (refFl vs v.machine) ++ refFl vs v.machine x := by
  rw [List.take_add_one, hx]; simp [hf]
theorem refFls_no {vs : List View} {v : View} {j : Nat} {x : Flight} (hx : v.flights[j]? = some x) (hf : flyB vs v x = false) : ((v.flights.take (j + 1)).filter (flyB vs v)).flatMap (refFl vs v.machine) = ((v.flights.take j).filter (flyB vs v)).flatMap (refFl vs v.machine) := by
  rw [List.take_add_one, hx]; simp [hf]
theorem mailIDs_def (m : MailE) : mailIDs m = m.to :: refsV m.args := by rw [mailIDs]
theorem refView1_def (vs : List View) (v : View) : refView1 vs v = v.names ++ v.mail.flatMap mailIDs ++ (v.flights.filter (flyB vs v)).flatMap (refFl vs v.machine) := by rw [refView1]
attribute [local irreducible] refView1 refRaw
theorem refRoots_s {h : Frag} {a : Value} {vs : List View} (hs : SL h 13 (ViewC 4398046511104) a vs) (sm : Small vs) : PSpec Tryz.prog 19 #[a] h (fun h' v => ∃ p c, v = .slice p (rootsR vs).length c ∧ SL h' 2 IDC (.slice p (rootsR vs).length c) (rootsR vs) ∧ (rootsR vs).length ≤ c) := by
  have hlen := sm.len
  obtain ⟨pv, cv, rfl⟩ := hs.slice
  refine pspec_of (vs := [.slice pv vs.length cv]) Tryz.func19 Tryz.ntmps19 rfl rfl ?_
  (focus (refine Wr ?_; refine Tm ?_; refine On ?_; refine Wr ?_; refine S_c rfl rfl rfl (C_buildSlice rfl (elm rfl) (zer rfl) rfl rfl rfl rfl ?_); intro b0_1; refine Tm ?_; refine On ?_; refine WP_seq ?_; refine Wr ?_; refine Tm ?_; refine On ?_; refine WP_block ?_))
  (refine WP_loopF (α := Nat × List ID × Option Addr × Nat × Hp) [0] (fun (s : Nat × List ID × Option Addr × Nat × Hp) => vs.length - s.1) (fun (s : Nat × List ID × Option Addr × Nat × Hp) => s.2.2.2.2 ++ []) (fun (s : Nat × List ID × Option Addr × Nat × Hp) => [(4, .int .i64 (s.1 : Int)), (3, .slice s.2.2.1 s.2.1.length s.2.2.2.1)]) (fun hh (s : Nat × List ID × Option Addr × Nat × Hp) => le h hh ∧ s.1 ≤ vs.length ∧ s.2.1 = (vs.take s.1).flatMap (refView1 vs) ∧ OS hh 35 2 IDC (.slice s.2.2.1 s.2.1.length s.2.2.2.1) s.2.1 s.2.2.2.2) (0, [], some ⟨b0_1, 0, none⟩, 0, [(b0_1, cells [] 35)]) ⟨_, _, rfl, rfl, rfl⟩ ?_ (by repeat' first | exact sR _ | exact sA _ _ | exact sN _ | apply s2 | apply s1) (by repeat' first | exact trivial | refine ⟨rfl, ?_⟩) ?_)
  · exact ⟨le_refl _, Nat.zero_le _, rfl, OS.lit0 _ _ _ _ _⟩
  rintro h1 ⟨k, out, p, c, M⟩ _ ⟨hl1, hk, hoe, hO⟩
  simp only at hk hoe hO
  dsimp only
  (replace hs := hs.up hl1)
  have hol : out.length ≤ 1080 := by rw [hoe]; exact refRaw_take_len sm k
  by_cases hlt : k < vs.length
  · obtain ⟨v, ev⟩ := get_of hlt
    have hvm : v ∈ vs := List.mem_of_getElem? ev
    have hn6 := sm.names v hvm
    have hm6 := sm.mail v hvm
    have ha6 := sm.args v hvm
    have hf6 := sm.flights v hvm
    have hvt := flatMap_take (refView1 vs) ev
    (focus (refine WP_seq ?_; refine Wr ?_; refine Tm ?_; refine Tm ?_; refine Tlen ?_; refine Tc ?_; refine On ?_; refine Wc ?_ ?_ <;> intro c3_1 <;> (first | simp [*] at c3_1; done | try simp at c3_1); refine WP_skip ?_; refine then_n ?_; refine WP_seq ?_; refine WP_block ?_; refine Wr ?_; refine Tm ?_; refine Tm ?_; refine Ti ?_; refine Tl ?_; refine Le ?_; rintro _ _ _ ⟨xi3_2, xa3_2, po3_2, qo3_2, ps3_2, qs3_2, pc3_2, qc3_2, pn3_2, qn3_2, pm3_2, qm3_2, xw3_2, xv3_2, pf3_2, qf3_2, pr3_2, qr3_2, xe3_2, xf3_2, rfl, vo3_2, vs3_2, vc3_2, vn3_2, vm3_2, vf3_2, vr3_2⟩; refine Tal ?_; intro b3_3; refine Tw u0 ?_; refine On ?_; refine WP_seq ?_; refine Wr ?_; refine Tm ?_; refine On ?_; refine WP_block ?_))
    (focus (refine WP_keepM [] [_] _ rfl ?_; rintro h4_k l4_k k4_k; have a4_k := at_of_keep k4_k; clear k4_k; replace hO := hO.up l4_k; replace hs := hs.up l4_k; replace vo3_2 := vo3_2.up l4_k; replace vs3_2 := vs3_2.up l4_k; replace vc3_2 := vc3_2.up l4_k; replace vn3_2 := vn3_2.up l4_k; replace vm3_2 := vm3_2.up l4_k; replace vf3_2 := vf3_2.up l4_k; replace vr3_2 := vr3_2.up l4_k))
    (refine WP_loopF (α := Nat × List ID × Option Addr × Nat × Hp) [5, 4, 0] (fun (s : Nat × List ID × Option Addr × Nat × Hp) => v.names.length - s.1) (fun (s : Nat × List ID × Option Addr × Nat × Hp) => s.2.2.2.2 ++ []) (fun (s : Nat × List ID × Option Addr × Nat × Hp) => [(6, .int .i64 (s.1 : Int)), (3, .slice s.2.2.1 s.2.1.length s.2.2.2.1)]) (fun hh (s : Nat × List ID × Option Addr × Nat × Hp) => hh = h4_k ∧ s.1 ≤ v.names.length ∧ s.2.1 = out ++ v.names.take s.1 ∧ OS h4_k 35 2 IDC (.slice s.2.2.1 s.2.1.length s.2.2.2.1) s.2.1 s.2.2.2.2) (0, out, p, c, M) ⟨_, _, rfl, ⟨_, _, rfl, ⟨_, _, rfl, rfl, rfl⟩, rfl⟩, rfl⟩ ?_ (by repeat' first | exact sR _ | exact sA _ _ | exact sN _ | apply s2 | apply s1) (by repeat' first | exact trivial | refine ⟨rfl, ?_⟩) ?_)
    · exact ⟨rfl, Nat.zero_le _, by simp, hO⟩
    clear hO M p c
    rintro h2 ⟨j, oo, p, c, M⟩ _ ⟨rfl, hj, hoo, hO⟩
    simp only at hj hoo hO
    dsimp only
    have hool : oo.length ≤ out.length + 6 := by rw [hoo, List.length_append, List.length_take]; omega
    by_cases hlt2 : j < v.names.length
    · obtain ⟨⟨n1, n2⟩, en⟩ := get_of hlt2
      (focus (refine WP_seq ?_; refine Wr ?_; refine Tm ?_; refine Tf ?_; refine Tl ?_; refine L_fld (Rd.pers ‹_›) (ty rfl) rfl ?_; refine Tlen ?_; refine Tc ?_; refine On ?_; refine Wc ?_ ?_ <;> intro c6_1 <;> (first | simp [*] at c6_1; done | try simp at c6_1); refine WP_skip ?_; refine then_n ?_; refine WP_seq ?_; refine WP_block ?_; refine R_region ?_; refine Tm ?_; refine Tf ?_; refine Tl ?_; refine L_fld (Rd.pers ‹_›) (ty rfl) rfl ?_; refine Tm ?_; refine Ti ?_; refine Tf ?_; refine Tl ?_; refine L_elF ‹_› ‹_› ?_; rintro _ _ _ ⟨xa6_2, rfl⟩; refine LV_a (ty rfl) rfl ?_; refine S_c rfl rfl rfl (C_buildSlice rfl (elm rfl) (zer rfl) rfl ⟨_, _, _, rfl, rfl, rfl, rfl, rfl, rfl⟩ rfl rfl ?_); intro b6_3; refine S_w rfl rfl rfl (W_app1 [] _ hO rfl rfl rfl rfl rfl rfl (elm rfl) (zer rfl) rfl rfl rfl rfl rfl (by (try simp only [lA]); omega) (by (try simp only [lA]); omega) ?_); rintro p6_4 q6_4 m6_4 o6_4; refine Tm ?_; refine OPS_nil ?_; refine block_n ?_; refine then_n ?_; refine R_region ?_; refine Tm ?_; refine Ta ?_; refine Tm ?_; refine OPS_nil ?_))
      refine roundF_n (j + 1, oo ++ [(n1, n2)], p6_4, q6_4, m6_4) (by simp only; omega) ⟨rfl, by simp only; omega, ?_, o6_4⟩ (by repeat' first | exact sR _ | exact sA _ _ | exact sN _ | apply s2 | apply s1) (by repeat' first | exact trivial | refine ⟨rfl, ?_⟩)
      simp only; rw [hoo, List.take_add_one, en]; simp
    have hge2 : j = v.names.length := by omega
    subst hge2
    rw [List.take_length] at hoo
    (focus (refine WP_seq ?_; refine Wr ?_; refine Tm ?_; refine Tf ?_; refine Tl ?_; refine L_fld (Rd.pers ‹_›) (ty rfl) rfl ?_; refine Tlen ?_; refine Tc ?_; refine On ?_; refine Wc ?_ ?_ <;> intro c7_1 <;> (first | simp [*] at c7_1; done | try simp at c7_1); refine WP_exit ?_; refine then_e ?_; refine roundF_e ?_; refine block_e ?_; refine then_n ?_; refine WP_seq ?_; refine Wr ?_; refine Tm ?_; refine On ?_; refine WP_block ?_))
    (refine WP_loopF (α := Nat × List ID × Option Addr × Nat × Hp) [5, 4, 0] (fun (s : Nat × List ID × Option Addr × Nat × Hp) => v.mail.length - s.1) (fun (s : Nat × List ID × Option Addr × Nat × Hp) => s.2.2.2.2 ++ []) (fun (s : Nat × List ID × Option Addr × Nat × Hp) => [(7, .int .i64 (s.1 : Int)), (3, .slice s.2.2.1 s.2.1.length s.2.2.2.1)]) (fun hh (s : Nat × List ID × Option Addr × Nat × Hp) => hh = h2 ∧ s.1 ≤ v.mail.length ∧ s.2.1 = oo ++ (v.mail.take s.1).flatMap mailIDs ∧ OS h2 35 2 IDC (.slice s.2.2.1 s.2.1.length s.2.2.2.1) s.2.1 s.2.2.2.2) (0, oo, p, c, M) ⟨_, _, rfl, ⟨_, _, rfl, ⟨_, _, rfl, rfl, rfl⟩, rfl⟩, rfl⟩ ?_ (by repeat' first | exact sR _ | exact sA _ _ | exact sN _ | apply s2 | apply s1) (by repeat' first | exact trivial | refine ⟨rfl, ?_⟩) ?_)
    · exact ⟨rfl, Nat.zero_le _, by simp, hO⟩
    clear hO M p c
    rintro h3 ⟨i, o3, p, c, M⟩ _ ⟨rfl, hi, ho3, hO⟩
    simp only at hi ho3 hO
    dsimp only
    have ho3l : o3.length ≤ oo.length + 42 := by
      have := mailIDs_len sm hvm i
      rw [ho3, List.length_append]; omega
    by_cases hlt3 : i < v.mail.length
    · obtain ⟨⟨⟨t1, t2⟩, ag⟩, em⟩ := get_of hlt3
      have hmt := flatMap_take mailIDs em
      have hag : ag.length ≤ 6 := ha6 _ (List.mem_of_getElem? em)
      (focus (refine WP_seq ?_; refine Wr ?_; refine Tm ?_; refine Tf ?_; refine Tl ?_; refine L_fld (Rd.pers ‹_›) (ty rfl) rfl ?_; refine Tlen ?_; refine Tc ?_; refine On ?_; refine Wc ?_ ?_ <;> intro c9_1 <;> (first | simp [*] at c9_1; done | try simp at c9_1); refine WP_skip ?_; refine then_n ?_; refine WP_seq ?_; refine WP_block ?_; refine Wr ?_; refine Tm ?_; refine Tf ?_; refine Tl ?_; refine L_fld (Rd.pers ‹_›) (ty rfl) rfl ?_; refine Tm ?_; refine Ti ?_; refine Tf ?_; refine Tl ?_; refine L_elF ‹_› ‹_› ?_; rintro _ _ _ ⟨xa9_2, xb9_2, xm9_2, pl9_2, ql9_2, rfl, fl9_2⟩; refine LV_a (ty rfl) rfl ?_; refine S_c rfl rfl rfl (C_buildSlice rfl (elm rfl) (zer rfl) rfl ⟨_, _, _, rfl, rfl, rfl, rfl, rfl, rfl⟩ rfl rfl ?_); intro b9_3; refine S_w rfl rfl rfl (W_app1 [] _ hO rfl rfl rfl rfl rfl rfl (elm rfl) (zer rfl) rfl rfl rfl rfl rfl (by (try simp only [lA]); omega) (by (try simp only [lA]); omega) ?_); rintro p9_4 q9_4 m9_4 o9_4; refine Tm ?_; refine On ?_; refine Wr ?_; refine Tm ?_; refine On ?_; refine WP_block ?_))
      (refine WP_loopF (α := Nat × List ID × Option Addr × Nat × Hp) [7, 5, 4, 0] (fun (s : Nat × List ID × Option Addr × Nat × Hp) => ag.length - s.1) (fun (s : Nat × List ID × Option Addr × Nat × Hp) => s.2.2.2.2 ++ []) (fun (s : Nat × List ID × Option Addr × Nat × Hp) => [(8, .int .i64 (s.1 : Int)), (3, .slice s.2.2.1 s.2.1.length s.2.2.2.1)]) (fun hh (s : Nat × List ID × Option Addr × Nat × Hp) => hh = h3 ∧ s.1 ≤ ag.length ∧ s.2.1 = (o3 ++ [(t1, t2)]) ++ refsV (ag.take s.1) ∧ OS h3 35 2 IDC (.slice s.2.2.1 s.2.1.length s.2.2.2.1) s.2.1 s.2.2.2.2) (0, o3 ++ [(t1, t2)], p9_4, q9_4, m9_4) ⟨_, _, rfl, ⟨_, _, rfl, ⟨_, _, rfl, ⟨_, _, rfl, rfl, rfl⟩, rfl⟩, rfl⟩, rfl⟩ ?_ (by repeat' first | exact sR _ | exact sA _ _ | exact sN _ | apply s2 | apply s1) (by repeat' first | exact trivial | refine ⟨rfl, ?_⟩) ?_)
      · exact ⟨rfl, Nat.zero_le _, by simp [refsV_nil], o9_4⟩
      clear hO M p c
      rintro h4 ⟨r, o4, p, c, M⟩ _ ⟨rfl, hr, ho4, hO⟩
      simp only at hr ho4 hO
      dsimp only
      have ho4l : o4.length ≤ o3.length + 7 := by
        have := refsV_length (ag.take r)
        rw [List.length_take] at this
        rw [ho4]; simp only [List.length_append, List.length_cons, List.length_nil]; omega
      by_cases hlt4 : r < ag.length
      · obtain ⟨⟨f1, f2, i1, i2⟩, ex⟩ := get_of hlt4
        have htk := refsV_take ex
        (focus (refine WP_seq ?_; refine Wr ?_; refine Tm ?_; refine Tf ?_; refine Tl ?_; refine L_fld (Rd.pers ‹_›) (ty rfl) rfl ?_; refine Tm ?_; refine Ti ?_; refine Tf ?_; refine Tl ?_; refine L_elF ‹_› ‹_› ?_; rintro _ _ _ ⟨xa11_1, xb11_1, xm11_1, pl11_1, ql11_1, rfl, fl11_1⟩; refine LV_1 (ty rfl) rfl ?_; refine Tlen ?_; refine Tc ?_; refine On ?_; refine Wc ?_ ?_ <;> intro c11_2 <;> (first | simp [*] at c11_2; done | try simp at c11_2); refine WP_skip ?_; refine then_n ?_; refine WP_seq ?_; refine WP_block ?_; refine Wr ?_; refine Tf ?_; refine Tl ?_; refine L_fld (Rd.pers ‹_›) (ty rfl) rfl ?_; refine Tm ?_; refine Ti ?_; refine Tf ?_; refine Tl ?_; refine L_elF ‹_› ‹_› ?_; rintro _ _ _ ⟨xa11_3, xb11_3, xm11_3, pl11_3, ql11_3, rfl, fl11_3⟩; refine LV_1 (ty rfl) rfl ?_; refine Tm ?_; refine Ti ?_; refine Tf ?_; refine Tl ?_; refine L_elF ‹_› ‹_› ?_; rintro _ _ _ rfl; refine LV_1 (ty rfl) rfl ?_; refine Tc ?_; refine On ?_; refine Wc ?_ ?_ <;> intro c11_5 <;> (first | simp [*] at c11_5; done | try simp at c11_5); (focus (refine R_region ?_; refine Tm ?_; refine Tf ?_; refine Tl ?_; refine L_fld (Rd.pers ‹_›) (ty rfl) rfl ?_; refine Tm ?_; refine Ti ?_; refine Tf ?_; refine Tl ?_; refine L_elF ‹_› ‹_› ?_; rintro _ _ _ ⟨xa11_6, xb11_6, xm11_6, pl11_6, ql11_6, rfl, fl11_6⟩; refine LV_1 (ty rfl) rfl ?_; refine Tm ?_; refine Ti ?_; refine Tf ?_; refine Tl ?_; refine L_elF ‹_› ‹_› ?_; rintro _ _ _ rfl; refine LV_a (ty rfl) rfl ?_; refine S_c rfl rfl rfl (C_buildSlice rfl (elm rfl) (zer rfl) rfl ⟨_, _, _, rfl, rfl, rfl, rfl, rfl, rfl⟩ rfl rfl ?_); intro b11_8; refine S_w rfl rfl rfl (W_app1 [] _ hO rfl rfl rfl rfl rfl rfl (elm rfl) (zer rfl) rfl rfl rfl rfl rfl (by (try simp only [lA]); omega) (by (try simp only [lA]); omega) ?_); rintro p11_9 q11_9 m11_9 o11_9; refine Tm ?_; refine OPS_nil ?_; refine block_n ?_; refine then_n ?_; refine R_region ?_; refine Tm ?_; refine Ta ?_; refine Tm ?_; refine OPS_nil ?_)); rotate_left 1; (focus (refine WP_skip ?_; refine block_n ?_; refine then_n ?_; refine R_region ?_; refine Tm ?_; refine Ta ?_; refine Tm ?_; refine OPS_nil ?_)); rotate_left 1))
        · rw [if_pos c11_5] at htk
          refine roundF_n (r + 1, o4 ++ [(i1, i2)], p11_9, q11_9, m11_9) (by simp only; omega) ⟨rfl, by simp only; omega, ?_, o11_9⟩ (by repeat' first | exact sR _ | exact sA _ _ | exact sN _ | apply s2 | apply s1) (by repeat' first | exact trivial | refine ⟨rfl, ?_⟩)
          simp only; rw [htk, ho4]; simp only [List.append_assoc]
        · rw [if_neg c11_5, List.append_nil] at htk
          refine roundF_n (r + 1, o4, p, c, M) (by simp only; omega) ⟨rfl, by simp only; omega, ?_, hO⟩ (by repeat' first | exact sR _ | exact sA _ _ | exact sN _ | apply s2 | apply s1) (by repeat' first | exact trivial | refine ⟨rfl, ?_⟩)
          simp only; rw [htk, ho4]
      have hge : r = ag.length := by omega
      subst hge
      rw [List.take_length] at ho4
      (focus (refine WP_seq ?_; refine Wr ?_; refine Tm ?_; refine Tf ?_; refine Tl ?_; refine L_fld (Rd.pers ‹_›) (ty rfl) rfl ?_; refine Tm ?_; refine Ti ?_; refine Tf ?_; refine Tl ?_; refine L_elF ‹_› ‹_› ?_; rintro _ _ _ ⟨xa12_1, xb12_1, xm12_1, pl12_1, ql12_1, rfl, fl12_1⟩; refine LV_1 (ty rfl) rfl ?_; refine Tlen ?_; refine Tc ?_; refine On ?_; refine Wc ?_ ?_ <;> intro c12_2 <;> (first | simp [*] at c12_2; done | try simp at c12_2); refine WP_exit ?_; refine then_e ?_; refine roundF_e ?_; refine block_e ?_; refine block_n ?_; refine then_n ?_; refine R_region ?_; refine Tm ?_; refine Ta ?_; refine Tm ?_; refine OPS_nil ?_))
      refine roundF_n (i + 1, o4, p, c, M) (by simp only; omega) ⟨rfl, by simp only; omega, ?_, hO⟩ (by repeat' first | exact sR _ | exact sA _ _ | exact sN _ | apply s2 | apply s1) (by repeat' first | exact trivial | refine ⟨rfl, ?_⟩)
      simp only; rw [hmt, ho4, ho3, mailIDs_def]; simp only [List.append_assoc, List.cons_append, List.nil_append]
    have hge3 : i = v.mail.length := by omega
    subst hge3
    rw [List.take_length] at ho3
    (focus (refine WP_seq ?_; refine Wr ?_; refine Tm ?_; refine Tf ?_; refine Tl ?_; refine L_fld (Rd.pers ‹_›) (ty rfl) rfl ?_; refine Tlen ?_; refine Tc ?_; refine On ?_; refine Wc ?_ ?_ <;> intro c13_1 <;> (first | simp [*] at c13_1; done | try simp at c13_1); refine WP_exit ?_; refine then_e ?_; refine roundF_e ?_; refine block_e ?_; refine then_n ?_; refine Wr ?_; refine Tm ?_; refine On ?_; refine WP_block ?_))
    (refine WP_loopF (α := Nat × List ID × Option Addr × Nat × Hp) [5, 4, 0] (fun (s : Nat × List ID × Option Addr × Nat × Hp) => v.flights.length - s.1) (fun (s : Nat × List ID × Option Addr × Nat × Hp) => s.2.2.2.2 ++ []) (fun (s : Nat × List ID × Option Addr × Nat × Hp) => [(9, .int .i64 (s.1 : Int)), (3, .slice s.2.2.1 s.2.1.length s.2.2.2.1)]) (fun hh (s : Nat × List ID × Option Addr × Nat × Hp) => le h3 hh ∧ s.1 ≤ v.flights.length ∧ s.2.1 = o3 ++ ((v.flights.take s.1).filter (flyB vs v)).flatMap (refFl vs v.machine) ∧ OS hh 35 2 IDC (.slice s.2.2.1 s.2.1.length s.2.2.2.1) s.2.1 s.2.2.2.2) (0, o3, p, c, M) ⟨_, _, rfl, ⟨_, _, rfl, ⟨_, _, rfl, rfl, rfl⟩, rfl⟩, rfl⟩ ?_ (by repeat' first | exact sR _ | exact sA _ _ | exact sN _ | apply s2 | apply s1) (by repeat' first | exact trivial | refine ⟨rfl, ?_⟩) ?_)
    · exact ⟨le_refl _, Nat.zero_le _, by simp, hO⟩
    clear hO M p c
    rintro h5 ⟨r, o5, p, c, M⟩ _ ⟨hl5, hr, ho5, hO⟩
    simp only at hr ho5 hO
    dsimp only
    (replace a4_k := a4_k.up hl5; replace hs := hs.up hl5; replace vo3_2 := vo3_2.up hl5; replace vs3_2 := vs3_2.up hl5; replace vc3_2 := vc3_2.up hl5; replace vn3_2 := vn3_2.up hl5; replace vm3_2 := vm3_2.up hl5; replace vf3_2 := vf3_2.up hl5; replace vr3_2 := vr3_2.up hl5)
    have ho5l : o5.length ≤ o3.length + 168 := by
      have := refFls_len sm hvm r
      rw [ho5, List.length_append]; omega
    by_cases hlt5 : r < v.flights.length
    · obtain ⟨x, ex⟩ := get_of hlt5
      have hxm := List.mem_of_getElem? ex
      have hx1 := sm.letter _ hvm _ hxm
      have hx2 := sm.pmail _ hvm _ hxm
      have hx3 := sm.pargs _ hvm _ hxm
      have hx4 := refFl_len sm hvm hxm
      cases hfy : flyB vs v x with
      | false =>
        have hfn := refFls_no ex hfy
        (focus (refine WP_seq ?_; refine Wr ?_; refine Tm ?_; refine Tf ?_; refine Tl ?_; refine L_fld (Rd.pers ‹_›) (ty rfl) rfl ?_; refine Tlen ?_; refine Tc ?_; refine On ?_; refine Wc ?_ ?_ <;> intro c16_1 <;> (first | simp [*] at c16_1; done | try simp at c16_1); refine WP_skip ?_; refine then_n ?_; refine WP_seq ?_; refine WP_block ?_; refine WP_seq ?_; refine R_draw (n := 8) mixed rfl ?_; refine Va 0 ?_; refine Vm 1 ?_; refine Va 1 ?_; refine Vl 3 ?_; refine Lp ?_; refine Va 2 ?_; refine Vf 7 ?_; refine Va 3 ?_; refine Vl 15 ?_; refine L_fld (Rd.pers ‹_›) (ty rfl) rfl ?_; refine Va 4 ?_; refine Vm 31 ?_; refine Va 5 ?_; refine A_q (m' := 63) rfl rfl rfl (Q_indexS ‹_› ‹_› rfl rfl rfl (elm rfl) rfl) rfl (by decide +kernel) ?_; refine Va 6 ?_; refine Vl 127 ?_; refine Le ?_; rintro _ _ _ ⟨xa16_2, xb16_2, xc16_2, xd16_2, xe16_2, pa16_2, qa16_2, pf16_2, qf16_2, pm16_2, qm16_2, xw16_2, y116_2, y216_2, y316_2, y416_2, y516_2, y616_2, y716_2, y816_2, y916_2, y1016_2, y1116_2, y1216_2, y1316_2, y1416_2, y1516_2, rfl, ha16_2, hf16_2, hm16_2⟩; refine Va 7 ?_; refine A_c (m' := 255) rfl rfl rfl rfl (by decide +kernel) (C_callv (refFlying_s ‹_› ⟨by assumption, _, _, _, _, _, _, _, _, _, _, _, _, _, _, _, _, _, _, _, rfl, by assumption, by assumption, by assumption, by assumption, by assumption, by assumption, by assumption⟩ ⟨_, _, _, _, _, _, _, _, _, _, _, _, _, _, _, _, _, _, _, _, _, _, _, _, _, _, _, rfl, by assumption, by assumption, by assumption⟩) rfl rfl ⟨_, _, rfl, ⟨_, _, rfl, ⟨_, _, rfl, rfl, rfl⟩, rfl⟩, rfl⟩ (cal rfl) ?_); refine A_done (by decide +kernel) ?_; refine then_n ?_; refine Wc ?_ ?_ <;> intro c16_3 <;> (first | simp [*] at c16_3; done | try simp at c16_3); refine WP_skip ?_; refine block_n ?_; refine then_n ?_; refine R_region ?_; refine Tm ?_; refine Ta ?_; refine Tm ?_; refine OPS_nil ?_))
        refine roundF_n (r + 1, o5, p, c, M) (by simp only; omega) ⟨hl5, by simp only; omega, ?_, hO⟩ (by repeat' first | exact sR _ | exact sA _ _ | exact sN _ | apply s2 | apply s1) (by repeat' first | exact trivial | refine ⟨rfl, ?_⟩)
        simp only; rw [hfn]; exact ho5
      | true =>
        have hfn := refFls_yes ex hfy
        (focus (refine WP_seq ?_; refine Wr ?_; refine Tm ?_; refine Tf ?_; refine Tl ?_; refine L_fld (Rd.pers ‹_›) (ty rfl) rfl ?_; refine Tlen ?_; refine Tc ?_; refine On ?_; refine Wc ?_ ?_ <;> intro c17_1 <;> (first | simp [*] at c17_1; done | try simp at c17_1); refine WP_skip ?_; refine then_n ?_; refine WP_seq ?_; refine WP_block ?_; refine WP_seq ?_; refine R_draw (n := 8) mixed rfl ?_; refine Va 0 ?_; refine Vm 1 ?_; refine Va 1 ?_; refine Vl 3 ?_; refine Lp ?_; refine Va 2 ?_; refine Vf 7 ?_; refine Va 3 ?_; refine Vl 15 ?_; refine L_fld (Rd.pers ‹_›) (ty rfl) rfl ?_; refine Va 4 ?_; refine Vm 31 ?_; refine Va 5 ?_; refine A_q (m' := 63) rfl rfl rfl (Q_indexS ‹_› ‹_› rfl rfl rfl (elm rfl) rfl) rfl (by decide +kernel) ?_; refine Va 6 ?_; refine Vl 127 ?_; refine Le ?_; rintro _ _ _ ⟨xa17_2, xb17_2, xc17_2, xd17_2, xe17_2, pa17_2, qa17_2, pf17_2, qf17_2, pm17_2, qm17_2, xw17_2, y117_2, y217_2, y317_2, y417_2, y517_2, y617_2, y717_2, y817_2, y917_2, y1017_2, y1117_2, y1217_2, y1317_2, y1417_2, y1517_2, rfl, ha17_2, hf17_2, hm17_2⟩; refine Va 7 ?_; refine A_c (m' := 255) rfl rfl rfl rfl (by decide +kernel) (C_callv (refFlying_s ‹_› ⟨by assumption, _, _, _, _, _, _, _, _, _, _, _, _, _, _, _, _, _, _, _, rfl, by assumption, by assumption, by assumption, by assumption, by assumption, by assumption, by assumption⟩ ⟨_, _, _, _, _, _, _, _, _, _, _, _, _, _, _, _, _, _, _, _, _, _, _, _, _, _, _, rfl, by assumption, by assumption, by assumption⟩) rfl rfl ⟨_, _, rfl, ⟨_, _, rfl, ⟨_, _, rfl, rfl, rfl⟩, rfl⟩, rfl⟩ (cal rfl) ?_); refine A_done (by decide +kernel) ?_; refine then_n ?_; refine Wc ?_ ?_ <;> intro c17_3 <;> (first | simp [*] at c17_3; done | try simp at c17_3); refine R_draw (n := 12) mixed rfl ?_; refine Va 0 ?_; refine Vm 1 ?_; refine Va 1 ?_; refine Vm 3 ?_; refine Va 2 ?_; refine Vf 7 ?_; refine Va 3 ?_; refine Vl 15 ?_; refine L_fld (Rd.pers ‹_›) (ty rfl) rfl ?_; refine Va 4 ?_; refine Vf 31 ?_; refine Va 5 ?_; refine Vl 63 ?_; refine L_fld (Rd.pers ‹_›) (ty rfl) rfl ?_; refine Va 6 ?_; refine Vm 127 ?_; refine Va 7 ?_; refine A_q (m' := 255) rfl rfl rfl (Q_indexS ‹_› ‹_› rfl rfl rfl (elm rfl) rfl) rfl (by decide +kernel) ?_; refine Va 8 ?_; refine Vl 511 ?_; refine Le ?_; rintro _ _ _ ⟨xa17_4, xb17_4, xc17_4, xd17_4, xe17_4, pa17_4, qa17_4, pf17_4, qf17_4, pm17_4, qm17_4, xw17_4, y117_4, y217_4, y317_4, y417_4, y517_4, y617_4, y717_4, y817_4, y917_4, y1017_4, y1117_4, y1217_4, y1317_4, y1417_4, y1517_4, rfl, ha17_4, hf17_4, hm17_4⟩; refine Va 9 ?_; refine A_c (m' := 1023) rfl rfl rfl rfl (by decide +kernel) (C_callF (refFlightRoots_s ‹_› ⟨_, _, _, _, _, _, _, _, _, _, _, _, _, _, _, _, _, _, _, _, _, _, _, _, _, _, _, rfl, by assumption, by assumption, by assumption⟩ ‹_› (by omega) (by omega) ‹_›) rfl rfl ⟨_, _, rfl, ⟨_, _, rfl, ⟨_, _, rfl, rfl, rfl⟩, rfl⟩, rfl⟩ (cal rfl) ?_); rintro h17_5 m17_5 _ l17_5 ⟨p17_5, q17_5, rfl, o17_5⟩; replace hO := hO.up l17_5; replace a4_k := a4_k.up l17_5; replace hs := hs.up l17_5; replace vo3_2 := vo3_2.up l17_5; replace vs3_2 := vs3_2.up l17_5; replace vc3_2 := vc3_2.up l17_5; replace vn3_2 := vn3_2.up l17_5; replace vm3_2 := vm3_2.up l17_5; replace vf3_2 := vf3_2.up l17_5; replace vr3_2 := vr3_2.up l17_5; replace ha17_2 := ha17_2.up l17_5; replace hf17_2 := hf17_2.up l17_5; replace hm17_2 := hm17_2.up l17_5; replace ha17_4 := ha17_4.up l17_5; replace hf17_4 := hf17_4.up l17_5; replace hm17_4 := hm17_4.up l17_5))
        refine Va 10 ?_
        refine A_w (m' := 2047) rfl rfl rfl rfl rfl (by decide +kernel) (OPw_keepM [] m17_5 _ rfl fun h6 hl6 hm6 => ?_)
        refine W_appS (by_ := 16) [] _ (OS.up hO hl6) (OS.sl o17_5 hl6 IDC_mono hm6 (B := 4398046511104) (by omega)) rfl rfl rfl rfl rfl rfl (elm rfl) (zer rfl) rfl rfl (by omega) (by omega) ?_
        rintro p2 c2 M2 hO2
        clear o17_5 hO hm6
        (replace a4_k := a4_k.up hl6; replace hs := hs.up hl6; replace vo3_2 := vo3_2.up hl6; replace vs3_2 := vs3_2.up hl6; replace vc3_2 := vc3_2.up hl6; replace vn3_2 := vn3_2.up hl6; replace vm3_2 := vm3_2.up hl6; replace vf3_2 := vf3_2.up hl6; replace vr3_2 := vr3_2.up hl6; replace ha17_2 := ha17_2.up hl6; replace hf17_2 := hf17_2.up hl6; replace hm17_2 := hm17_2.up hl6; replace ha17_4 := ha17_4.up hl6; replace hf17_4 := hf17_4.up hl6; replace hm17_4 := hm17_4.up hl6)
        (focus (refine Va 11 ?_; refine Vs 4095 ?_; refine A_done (by decide +kernel) ?_; refine block_n ?_; refine then_n ?_; refine R_region ?_; refine Tm ?_; refine Ta ?_; refine Tm ?_; refine OPS_nil ?_))
        refine roundF_n (r + 1, _, p2, c2, M2) (by simp only; omega) ⟨le_trans hl5 (le_trans l17_5 hl6), by simp only; omega, ?_, hO2⟩ (by repeat' first | exact sR _ | exact sA _ _ | exact sN _ | apply s2 | apply s1) (by repeat' first | exact trivial | refine ⟨rfl, ?_⟩)
        simp only; rw [hfn, ho5, List.append_assoc]
    have hge5 : r = v.flights.length := by omega
    subst hge5
    rw [List.take_length] at ho5
    (focus (refine WP_seq ?_; refine Wr ?_; refine Tm ?_; refine Tf ?_; refine Tl ?_; refine L_fld (Rd.pers ‹_›) (ty rfl) rfl ?_; refine Tlen ?_; refine Tc ?_; refine On ?_; refine Wc ?_ ?_ <;> intro c20_1 <;> (first | simp [*] at c20_1; done | try simp at c20_1); refine WP_exit ?_; refine then_e ?_; refine roundF_e ?_; refine block_e ?_; refine block_n ?_; refine then_n ?_; refine R_region ?_; refine Tm ?_; refine Ta ?_; refine Tm ?_; refine OPS_nil ?_))
    refine roundF_n (k + 1, o5, p, c, M) (by simp only; omega) ⟨le_trans hl1 (le_trans l4_k hl5), by simp only; omega, ?_, hO⟩ (by repeat' first | exact sR _ | exact sA _ _ | exact sN _ | apply s2 | apply s1) (by repeat' first | exact trivial | refine ⟨rfl, ?_⟩)
    simp only; rw [hvt, refView1_def, ho5, ho3, hoo, hoe]; simp only [List.append_assoc]
  have hge : k = vs.length := by omega
  subst hge
  rw [List.take_length] at hoe
  have hoe' : out = refRaw vs := by rw [hoe, refRaw]
  refine WP_keepM [] M _ rfl fun h2 hl2 hm2 => ?_
  have hS : SL h2 2 IDC (.slice p out.length c) out := hO.sl hl2 IDC_mono hm2 (by omega)
  clear hO hm2 hoe
  (replace hs := hs.up hl2)
  (focus (refine WP_seq ?_; refine Wr ?_; refine Tm ?_; refine Tm ?_; refine Tlen ?_; refine Tc ?_; refine On ?_; refine Wc ?_ ?_ <;> intro c22_1 <;> (first | simp [*] at c22_1; done | try simp at c22_1); refine WP_exit ?_; refine then_e ?_; refine roundF_e ?_; refine block_e ?_; refine then_n ?_; refine Wr ?_; refine Tm ?_; refine S_c rfl rfl rfl (C_call (refSet_s ‹_› (by omega)) rfl rfl ⟨_, _, rfl, rfl, rfl⟩ (cal rfl) ?_); rintro h22_2 _ l22_2 ⟨p22_2, q22_2, rfl, f22_2, g22_2⟩; replace hS := hS.up l22_2; replace hs := hs.up l22_2; refine S_q rfl rfl rfl (Q_build rfl (by decide +kernel) (zer rfl) rfl rfl) ?_; refine S_c rfl rfl rfl (C_buildSlice rfl (elm rfl) (zer rfl) rfl ⟨_, _, _, rfl, rfl, rfl, rfl, rfl, rfl⟩ rfl rfl ?_); intro b22_3))
  (focus (refine OPS_keepM [] [_] _ rfl ?_; rintro h23_k l23_k k23_k; have a23_k := at_of_keep k23_k; clear k23_k; replace f22_2 := f22_2.up l23_k; replace hS := hS.up l23_k; replace hs := hs.up l23_k))
  have hz : SL h23_k 2 IDC (.slice (some ⟨b22_3, 0, none⟩) [((0, 0) : ID)].length 1) [((0, 0) : ID)] := slb_of_at a23_k (Flat.one rfl rfl rfl) (by simp)
  have hsl := setL_length out
  have hfin : minusL (setL out) [(0, 0)] = rootsR vs := by rw [hoe', refRaw_roots]
  (focus (refine S_c rfl rfl rfl (C_call (refMinus_s ‹_› ‹_› (by omega)) rfl rfl ⟨_, _, rfl, ⟨_, _, rfl, rfl, rfl⟩, rfl⟩ (cal rfl) ?_); rintro h24_1 _ l24_1 ⟨p24_1, q24_1, rfl, f24_1, g24_1⟩; replace a23_k := a23_k.up l24_1; replace f22_2 := f22_2.up l24_1; replace hS := hS.up l24_1; replace hs := hs.up l24_1; replace hz := hz.up l24_1; refine Tm ?_; refine On ?_; refine WP_ret ?_))
  refine pret (.inl rfl) rfl ⟨_, _, rfl, rfl, rfl⟩ ?_
  rw [← hfin]
  exact ⟨_, _, rfl, by assumption, by assumption⟩
theorem refReachable_s {h : Frag} {a : Value} {vs : List View} (hs : SL h 13 (ViewC 4398046511104) a vs) (sm : Small vs) : PSpec Tryz.prog 20 #[a] h (fun h' v => ∃ p c, v = .slice p (reachR vs).length c ∧ SL h' 2 IDC (.slice p (reachR vs).length c) (reachR vs)) := by
  obtain ⟨_, hgl, hgf⟩ := sm.graph
  have hrl := roots_len sm
  obtain ⟨pv, cv, rfl⟩ := hs.slice
  refine pspec_of (vs := [.slice pv vs.length cv]) Tryz.func20 Tryz.ntmps20 rfl rfl ?_
  (focus (refine Wr ?_; refine Tm ?_; refine On ?_; refine Wr ?_; refine Tm ?_; refine S_c rfl rfl rfl (C_call (refGraph_s ‹_› ‹_›) rfl rfl ⟨_, _, rfl, rfl, rfl⟩ (cal rfl) ?_); rintro h0_1 _ l0_1 ⟨_, rfl, pg0_1, qg0_1, rfl, fg0_1⟩; replace hs := hs.up l0_1; refine Tm ?_; refine Tx ?_; refine Tx ?_; refine Tal ?_; intro b0_2; refine Tw u0 ?_; refine Tm ?_; refine On ?_; refine WP_seq ?_; refine Wr ?_; refine Tm ?_; refine Tc ?_; refine On ?_; refine Wc ?_ ?_ <;> intro c0_3 <;> (first | simp [*] at c0_3; done | try simp at c0_3); (focus (refine Wr ?_; refine Tm ?_; refine On ?_; refine WP_ret ?_; refine then_r ?_)); rotate_left 1; (focus (refine WP_skip ?_; refine then_n ?_)); rotate_left 1))
  · refine pret (.inl rfl) rfl ⟨_, _, rfl, rfl, rfl⟩ ?_
    rw [reachR, if_neg c0_3]
    exact ⟨_, _, rfl, SLB.nil _ _ _ _ _ _⟩
  · have hre : reachR vs = reachL (graphR vs).1 (rootsR vs) := by rw [reachR, if_pos c0_3]
    rw [hre]
    (focus (refine WP_keepM [] [_] _ rfl ?_; rintro h1_k l1_k k1_k; have a1_k := at_of_keep k1_k; clear k1_k; replace fg0_1 := fg0_1.up l1_k; replace hs := hs.up l1_k))
    (focus (refine WP_seq ?_; refine R_draw (n := 5) mixed rfl ?_; refine Va 0 ?_; refine Vl 1 ?_; refine Lp ?_; refine Va 1 ?_; refine Vm 3 ?_; refine Va 2 ?_; refine A_c (m' := 7) rfl rfl rfl rfl (by decide +kernel) (C_call (refRoots_s ‹_› ‹_›) rfl rfl ⟨_, _, rfl, rfl, rfl⟩ (cal rfl) ?_); rintro h2_1 _ l2_1 ⟨p2_1, q2_1, rfl, f2_1, g2_1⟩; replace a1_k := a1_k.up l2_1; replace fg0_1 := fg0_1.up l2_1; replace hs := hs.up l2_1; refine Va 3 ?_; refine A_c (m' := 15) rfl rfl rfl rfl (by decide +kernel) (C_call (refReach_s ⟨_, _, rfl, by assumption⟩ ‹_› (by omega) (by omega) ‹_›) rfl rfl ⟨_, _, rfl, ⟨_, _, rfl, rfl, rfl⟩, rfl⟩ (cal rfl) ?_); rintro h2_2 _ l2_2 ⟨p2_2, q2_2, rfl, f2_2⟩; replace f2_1 := f2_1.up l2_2; replace a1_k := a1_k.up l2_2; replace fg0_1 := fg0_1.up l2_2; replace hs := hs.up l2_2; refine Va 4 ?_; refine Vs 31 ?_; refine A_done (by decide +kernel) ?_; refine then_n ?_; refine WP_ret ?_))
    refine pret (.inl rfl) rfl ⟨_, _, rfl, rfl, rfl⟩ ?_
    exact ⟨_, _, rfl, by assumption⟩
end Go.Proofs.YtfhoecgiahpddaaGreat
/-
  CONTRACTS: observer.plain.
-/
set_option linter.all false
namespace Go.Proofs.YtfhoecgiahpddaaGreat
open Go.Mesh Go.RowKit
set_option maxRecDepth 100000
set_option linter.unusedVariables false
set_option maxHeartbeats 4000000
attribute [local irreducible] WP OPS ANY ANYo LG LV FSpec PSpec QOP OPc OPw thenQ blockQ roundQ roundF retQ retM Rd At SLB OS cmpI orI cmpID namedB valB nodeB kindB validG valAux idxI findG zeroV viewOf vwAt idxOf recv flyB scionOf moveOf numberedOf idOf valueOf mget mput localB carriedB msgB sizesB smallV fewB stubOf followF followOf flOf flightsOf flPre
theorem cloneValsO_s {h : Frag} {a : Value} {xs : List Val} (hx : SL h 4 ValC a xs) : FSpec Tryz.prog 92 #[a] h [] (fun h' L' v => ∃ p c, v = .slice p xs.length c ∧ OS h' 42 4 ValC (.slice p xs.length c) xs L') := by
  have hxl := hx.le
  obtain ⟨p, cap, rfl⟩ := hx.slice
  refine spec_of (vs := [.slice p xs.length cap]) Tryz.func92 Tryz.ntmps92 rfl rfl rfl ?_
  (focus (refine Wr ?_; refine Tm ?_; refine On ?_; refine WP_seq ?_; refine Wr ?_; refine Tm ?_; refine S_q rfl rfl rfl (Q_eqNil rfl rfl rfl rfl) ?_; refine On ?_; refine Wc ?_ ?_ <;> intro c0_1 <;> (first | simp [*] at c0_1; done | try simp at c0_1); (focus (refine Wr ?_; refine Tm ?_; refine On ?_; refine WP_ret ?_; refine then_r ?_)); rotate_left 1; (focus (refine WP_skip ?_; refine then_n ?_; refine Wr ?_; refine S_c rfl rfl rfl (C_buildSlice rfl (elm rfl) (zer rfl) rfl rfl rfl rfl ?_); intro b0_2; refine Tm ?_; refine S_w rfl rfl rfl (W_appS [] _ (OS.lit0 _ _ _ _ _) ‹_› rfl rfl rfl rfl rfl rfl (elm rfl) (zer rfl) rfl rfl (by (try simp only [lA]); omega) (by (try simp only [lA]); omega) ?_); rintro p0_3 q0_3 m0_3 o0_3; refine Tm ?_; refine On ?_; refine WP_ret ?_)); rotate_left 1))
  · subst c0_1
    have hn : xs = [] := hx.none_nil
    subst hn
    exact ret_q [] (.inl rfl) rfl ⟨_, _, rfl, rfl, rfl⟩ (List.Sublist.refl _) ⟨_, _, rfl, OS.nil _ _ _ _⟩
  · exact ret_q m0_3 (.inl rfl) rfl ⟨_, _, rfl, rfl, rfl⟩ (by repeat' first | exact sR _ | exact sA _ _ | exact sN _ | apply s2 | apply s1) ⟨_, _, rfl, o0_3⟩
/-- a field, where what is not reached counts as nil -/
noncomputable def plainV (kd : Int) (live : List ID) (v : Val) : Val := if kd = 2 ∧ v.1 = 2 ∧ v.2.2 ∉ live then (0, 0, (0, 0)) else v
noncomputable def plainN (live : List ID) (n : Nd) : Nd := ⟨n.id, n.kind, n.cls, n.fields.map (plainV n.kind live)⟩
theorem plainN_def (live : List ID) (i : ID) (kd cl : Int) (fs : List Val) : plainN live ⟨i, kd, cl, fs⟩ = ⟨i, kd, cl, fs.map (plainV kd live)⟩ := rfl
/-- the first j fields made plain -/
noncomputable def plainTo (kd : Int) (live : List ID) (fs : List Val) (j : Nat) : List Val := (fs.take j).map (plainV kd live) ++ fs.drop j
theorem plainTo_zero (kd : Int) (live : List ID) (fs : List Val) : plainTo kd live fs 0 = fs := by simp [plainTo]
theorem plainTo_end (kd : Int) (live : List ID) (fs : List Val) : plainTo kd live fs fs.length = fs.map (plainV kd live) := by simp [plainTo]
theorem plainTo_len (kd : Int) (live : List ID) (fs : List Val) (j : Nat) : (plainTo kd live fs j).length = fs.length := by simp [plainTo]; omega
theorem plainTo_get {kd : Int} {live : List ID} {fs : List Val} {j : Nat} {x : Val} (hx : fs[j]? = some x) : (plainTo kd live fs j)[j]? = some x := by
  have hlt := (List.getElem?_eq_some_iff.1 hx).1
  have hl : ((fs.take j).map (plainV kd live)).length = j := by simp; omega
  rw [plainTo, List.getElem?_append_right (by omega), hl, Nat.sub_self, drop_get hx]; rfl
theorem plainTo_yes {kd : Int} {live : List ID} {fs : List Val} {j : Nat} {x : Val} (hx : fs[j]? = some x) (hp : kd = 2 ∧ x.1 = 2 ∧ x.2.2 ∉ live) : plainTo kd live fs (j + 1) = (plainTo kd live fs j).set j (0, 0, (0, 0)) := by
  have hlt := (List.getElem?_eq_some_iff.1 hx).1
  have hl : ((fs.take j).map (plainV kd live)).length = j := by simp; omega
  have hv : plainV kd live x = (0, 0, (0, 0)) := by rw [plainV, if_pos hp]
  rw [plainTo, plainTo, drop_get hx, List.set_append_right _ _ (by omega), hl, Nat.sub_self, List.take_add_one, hx]
  simp [hv]
theorem plainTo_no {kd : Int} {live : List ID} {fs : List Val} {j : Nat} {x : Val} (hx : fs[j]? = some x) (hp : ¬ (kd = 2 ∧ x.1 = 2 ∧ x.2.2 ∉ live)) : plainTo kd live fs (j + 1) = plainTo kd live fs j := by
  have hv : plainV kd live x = x := by rw [plainV, if_neg hp]
  rw [plainTo, plainTo, drop_get hx, List.take_add_one, hx]
  simp [hv]
attribute [local irreducible] plainV plainN plainTo
theorem plain_s {h : Frag} {n : Nd} {us : List Value} {a : Value} {live : List ID} (hn : NodeC 4398046511104 h n us) (hl : SL h 2 IDC a live) : PSpec Tryz.prog 74 #[.agg us.toArray, a] h
    (fun h' v => ∃ p c, v = .agg #[.slice p 1 c] ∧ GraphC 4398046511104 h' [plainN live n] [.slice p 1 c]) := by
  obtain ⟨p, c, rfl, hf⟩ := hn
  obtain ⟨⟨i1, i2⟩, kd, cl, fs⟩ := n
  obtain ⟨pl, ql, rfl⟩ := hl.slice
  simp only at hf
  have hfl := hf.le
  refine pspec_of (vs := [.agg [Value.int .i64 i1, .int .i64 i2, .int .i64 kd, .int .i64 cl, .slice p fs.length c].toArray, .slice pl live.length ql]) Tryz.func74 Tryz.ntmps74 rfl rfl ?_
  (focus (refine Wr ?_; refine Tbx ?_; intro b0_1; refine Tal ?_; intro b0_2; refine On ?_; refine Wr ?_; refine Tf ?_; refine Tl ?_; refine Lo m1 ?_; refine S_c rfl rfl rfl (C_callF (cloneValsO_s ‹_›) rfl rfl ⟨_, _, rfl, rfl, rfl⟩ (cal rfl) ?_); rintro h0_3 m0_3 _ l0_3 ⟨p0_3, q0_3, rfl, o0_3⟩; replace hf := hf.up l0_3; replace hl := hl.up l0_3; refine Tf ?_; refine S_w0 rfl rfl (W_fld rfl rfl rfl (ty rfl) (Upd.skip _ u1) rfl rfl rfl rfl ?_); refine On ?_; refine WP_seq ?_; refine Wr ?_; refine Tf ?_; refine Tl ?_; refine L_fld (Rd.own (mAp m1)) (ty rfl) rfl ?_; refine Tlen ?_; refine Tm ?_; refine On ?_; refine WP_block ?_))
  refine WP.perm (L2 := (b0_1, cells [Value.int .i64 i1, Value.int .i64 i2, Value.int .i64 kd, Value.int .i64 cl, .slice p0_3 fs.length q0_3] 38) :: (b0_2, cells [.slice none 0 0] 27) :: (m0_3 ++ [])) ?_ ?_
  · rw [List.append_nil]
    exact (List.Perm.swap _ _ _).trans (List.perm_append_comm (l₁ := [_, _]))
  (focus (refine WP_keepM [] [_] _ rfl ?_; rintro h1_k l1_k k1_k; have a1_k := at_of_keep k1_k; clear k1_k; replace o0_3 := o0_3.up l1_k; replace hf := hf.up l1_k; replace hl := hl.up l1_k))
  (refine WP_loopF (α := Nat × Hp) [13, 12, 4, 2, 1] (fun (s : Nat × Hp) => fs.length - s.1) (fun (s : Nat × Hp) => (b0_2, cells [.slice none 0 0] 27) :: (s.2 ++ [])) (fun (s : Nat × Hp) => [(14, .int .i64 (s.1 : Int))]) (fun hh (s : Nat × Hp) => hh = h1_k ∧ s.1 ≤ fs.length ∧ OS h1_k 42 4 ValC (.slice p0_3 fs.length q0_3) (plainTo kd live fs s.1) s.2) (0, m0_3) ⟨_, _, rfl, ⟨_, _, rfl, ⟨_, _, rfl, ⟨_, _, rfl, ⟨_, _, rfl, rfl, rfl⟩, rfl⟩, rfl⟩, rfl⟩, rfl⟩ ?_ (by repeat' first | exact sR _ | exact sA _ _ | exact sN _ | apply s2 | apply s1) (by repeat' first | exact trivial | refine ⟨rfl, ?_⟩) ?_)
  · exact ⟨rfl, Nat.zero_le _, by rw [plainTo_zero]; exact o0_3⟩
  clear o0_3
  rintro h1 ⟨j, M⟩ _ ⟨rfl, hj, hO⟩
  simp only at hj hO
  dsimp only
  have hpl := plainTo_len kd live fs j
  by_cases hlt : j < fs.length
  · obtain ⟨⟨x1, x2, x3, x4⟩, ex⟩ := get_of hlt
    have hpg := plainTo_get (kd := kd) (live := live) ex
    (focus (refine Wr ?_; refine Tc ?_; refine On ?_; refine WP_seq ?_; refine Wc ?_ ?_ <;> intro c3_1 <;> (first | simp [*] at c3_1; done | try simp at c3_1); refine WP_skip ?_; refine then_n ?_; refine WP_seq ?_; refine WP_block ?_; refine Wr ?_; refine Tm ?_; refine S_q rfl rfl rfl (Q_indexO ‹_› ‹_› rfl rfl rfl (elm rfl) rfl) ?_; refine Tl ?_; refine L_oelA [_] _ ‹_› ‹_› rfl (ty rfl) ?_; rintro _ _ _ rfl; refine Tal ?_; intro b3_3; refine Tm ?_; refine Tw u0 ?_; refine On ?_; refine Wr ?_; refine Tf ?_; refine Tl ?_; refine L_fld (Rd.pers ‹_›) (ty rfl) rfl ?_; refine Tc ?_; refine Tm ?_; refine Ugs ?_ ?_ <;> intro c3_4 <;> (first | simp [*] at c3_4; done | try simp at c3_4); (focus (refine Ugf ?_; refine Ugl ?_; refine Lo m0 ?_; refine Ugc ?_; refine Tp1 ?_; refine Tm ?_; refine Ugs ?_ ?_ <;> intro c3_5 <;> (first | simp [*] at c3_5; done | try simp at c3_5); (focus (refine Ugm ?_; refine Ugf ?_; refine Ugl ?_; refine L_sub (Rd.own m0) (ty rfl) rfl ?_; refine S_gc rfl rfl rfl rfl rfl rfl (C_callv (has_s (x := (_, _)) ‹_›) rfl rfl ⟨_, _, rfl, ⟨_, _, rfl, rfl, rfl⟩, rfl⟩ (cal rfl) ?_); refine S_gq rfl rfl rfl rfl rfl rfl (Q_not rfl rfl) ?_; refine Tp1 ?_; refine On ?_; refine Wc ?_ ?_ <;> intro c3_6 <;> (first | simp [*] at c3_6; done | try simp at c3_6); (focus (refine R_region ?_; refine Tf ?_; refine Tl ?_; refine L_fld (Rd.pers ‹_›) (ty rfl) rfl ?_; refine Tm ?_; refine S_q rfl rfl rfl (Q_build rfl (by decide +kernel) (zer rfl) rfl rfl) ?_; refine S_q rfl rfl rfl (Q_indexO ‹_› ‹_› rfl rfl rfl (elm rfl) rfl) ?_)); rotate_left 1; (focus (refine WP_skip ?_; refine block_n ?_; refine then_n ?_; refine R_region ?_; refine Ta ?_; refine Tm ?_; refine OPS_nil ?_)); rotate_left 1)); rotate_left 2; (focus (refine Tn ?_; refine Tn ?_; refine Tn ?_; refine Tn ?_; refine Tn ?_; refine Tp0 ?_; refine On ?_; refine cond_f rfl ?_; refine WP_skip ?_; refine block_n ?_; refine then_n ?_; refine R_region ?_; refine Ta ?_; refine Tm ?_; refine OPS_nil ?_)); rotate_left 1)); rotate_left 3; (focus (refine Tn ?_; refine Tn ?_; refine Tn ?_; refine Tp0 ?_; refine Tm ?_; refine Tn ?_; refine Tn ?_; refine Tn ?_; refine Tn ?_; refine Tn ?_; refine Tp0 ?_; refine On ?_; refine cond_f rfl ?_; refine WP_skip ?_; refine block_n ?_; refine then_n ?_; refine R_region ?_; refine Ta ?_; refine Tm ?_; refine OPS_nil ?_)); rotate_left 1))
    · refine S_w0 rfl rfl (W_setO (j := j) (y := (0, 0, (0, 0))) (vs := vlc (0, 0, (0, 0))) [_, _] _ hO (by omega) rfl rfl rfl (ty rfl) rfl rfl rfl rfl ?_)
      intro M' hO'
      (focus (refine OPS_nil ?_; refine block_n ?_; refine then_n ?_; refine R_region ?_; refine Ta ?_; refine Tm ?_; refine OPS_nil ?_))
      refine roundF_n (j + 1, M') (by simp only; omega) ⟨rfl, by simp only; omega, ?_⟩ (by repeat' first | exact sR _ | exact sA _ _ | exact sN _ | apply s2 | apply s1) (by repeat' first | exact trivial | refine ⟨rfl, ?_⟩)
      simp only; rw [plainTo_yes ex ⟨c3_4, c3_5, c3_6⟩]; exact hO'
    all_goals refine roundF_n (j + 1, M) (by simp only; omega) ⟨rfl, by simp only; omega, ?_⟩ (by repeat' first | exact sR _ | exact sA _ _ | exact sN _ | apply s2 | apply s1) (by repeat' first | exact trivial | refine ⟨rfl, ?_⟩)
    all_goals (simp only; rw [plainTo_no ex (by simp_all)]; exact hO)
  have hge : j = fs.length := by omega
  subst hge
  rw [plainTo_end] at hO
  have hml : (fs.map (plainV kd live)).length = fs.length := List.length_map _
  refine WP_keepM [_] M _ rfl fun h2 hl2 hm2 => ?_
  have hN : SL h2 4 ValC (.slice p0_3 fs.length q0_3) (fs.map (plainV kd live)) := hO.sl hl2 ValC_mono hm2 (by omega)
  clear hO hm2
  (replace a1_k := a1_k.up hl2; replace hf := hf.up hl2; replace hl := hl.up hl2)
  (focus (refine Wr ?_; refine Tc ?_; refine On ?_; refine WP_seq ?_; refine Wc ?_ ?_ <;> intro c6_1 <;> (first | simp [*] at c6_1; done | try simp at c6_1); refine WP_exit ?_; refine then_e ?_; refine roundF_e ?_; refine block_e ?_; refine then_n ?_; refine Wr ?_; refine Tl ?_; refine Lp ?_; refine S_c rfl rfl rfl (C_buildSlice rfl (elm rfl) (zer rfl) rfl ⟨_, _, _, rfl, rfl, rfl, rfl, rfl, rfl⟩ rfl rfl ?_); intro b6_2; refine S_q rfl rfl rfl (Q_build rfl (by decide +kernel) (zer rfl) ⟨_, _, _, _, _, _, _, rfl, fld rfl rfl, ty rfl, rfl, rfl, rfl, rfl⟩ rfl) ?_; refine Tw u1 ?_; refine On ?_; refine WP_ret ?_))
  refine pretKM [] [_] _ rfl (.inl rfl) rfl ⟨_, _, _, rfl, Loads_agg (Rd.own m1) (ty rfl) rfl, rfl, rfl⟩ fun h' hl' hm' => ?_
  have hnd : NodeC 4398046511104 h2 (plainN live ⟨(i1, i2), kd, cl, fs⟩) [.int .i64 i1, .int .i64 i2, .int .i64 kd, .int .i64 cl, .slice p0_3 fs.length q0_3] := by
    rw [plainN_def]
    refine ⟨p0_3, q0_3, by simp only [hml], ?_⟩
    simp only [hml]
    exact hN
  exact ⟨_, _, rfl, _, _, rfl, (OS.one1 h2 38 5 rfl rfl hnd).sl hl' (NodeC_mono _) hm' (by simp)⟩
end Go.Proofs.YtfhoecgiahpddaaGreat
/-
  CONTRACTS: the inner function of observer.Agrees.
-/
set_option linter.all false
namespace Go.Proofs.YtfhoecgiahpddaaGreat
open Go.Mesh Go.RowKit
set_option maxRecDepth 100000
set_option linter.unusedVariables false
set_option maxHeartbeats 4000000
attribute [local irreducible] WP OPS ANY ANYo LG LV FSpec PSpec QOP OPc OPw thenQ blockQ roundQ roundF retQ retM Rd At SLB OS cmpI orI cmpID namedB valB nodeB kindB validG valAux idxI findG zeroV viewOf vwAt idxOf recv flyB scionOf moveOf numberedOf idOf valueOf mget mput localB carriedB msgB sizesB smallV fewB stubOf followF followOf flOf flightsOf flPre plainV plainN plainTo
/-- whether two graphs do not agree on an identity -/
noncomputable def disagree (own g : List Nd) (live : List ID) (id : ID) : Bool := match findG own id, findG g id with
  | some a, some b => !decide (plainN live a = plainN live b)
  | _, _ => true
theorem one_eq {a b : Nd} : decide ([a] = [b]) = decide (a = b) := by simp
theorem disagree_some {own g : List Nd} {live : List ID} {id : ID} {a b : Nd} (h1 : findG own id = some a) (h2 : findG g id = some b) : disagree own g live id = !decide (plainN live a = plainN live b) := by rw [disagree, h1, h2]
theorem disagree_none1 {own g : List Nd} {live : List ID} {id : ID} (h1 : findG own id = none) : disagree own g live id = true := by rw [disagree, h1]
theorem disagree_none2 {own g : List Nd} {live : List ID} {id : ID} (h1 : findG g id = none) : disagree own g live id = true := by
  rw [disagree, h1]; cases findG own id <;> rfl
attribute [local irreducible] disagree
theorem agrees1_s {h : Frag} {id : ID} {own g : List Nd} {live : List ID} {b1 b2 b3 : Nat} {us ws : List Value} {a : Value} (h1 : At h b1 0 us) (hg1 : GraphC 4398046511104 h own us) (h2 : At h b2 0 ws) (hg2 : GraphC 4398046511104 h g ws) (h3 : At h b3 0 [a]) (hl : SL h 2 IDC a live) :
    PSpec Tryz.prog 73 ([Value.agg (idc id).toArray] ++ [ptr b1 0, ptr b2 0, ptr b3 0]).toArray h (fun _ v => v = .bool (disagree own g live id)) := by
  obtain ⟨p, c, rfl, hf⟩ := hg1
  obtain ⟨p', c', rfl, hf'⟩ := hg2
  obtain ⟨i1, i2⟩ := id
  refine pspec_of (vs := [.agg (idc (i1, i2)).toArray, ptr b1 0, ptr b2 0, ptr b3 0]) Tryz.func73 Tryz.ntmps73 rfl rfl ?_
  cases e1 : findG own (i1, i2) with
  | none =>
    (focus (refine Wr ?_; refine Tbx ?_; intro b0_1; refine Tm ?_; refine On ?_; refine Wr ?_; refine Tl ?_; refine Lp ?_; refine Tl ?_; refine Lg m0 ?_; refine S_c rfl rfl rfl (C_call (find_s ⟨_, _, rfl, by assumption⟩) rfl rfl ⟨_, _, rfl, ⟨_, _, rfl, rfl, rfl⟩, rfl⟩ (cal rfl) ?_); rintro h0_2 _ l0_2 ⟨vf0_2, rfl, pn0_2, qn0_2, rfl, fn0_2⟩; replace h3 := h3.up l0_2; replace hl := hl.up l0_2; replace hf := hf.up l0_2; replace h1 := h1.up l0_2; replace hf' := hf'.up l0_2; replace h2 := h2.up l0_2; refine Tm ?_; refine Tx ?_; refine Tx ?_; refine Tal ?_; intro b0_3; refine Tw u0 ?_; refine Tm ?_; refine On ?_; refine Wr ?_; refine Tl ?_; refine Lp ?_; refine Tl ?_; refine Lg m1 ?_; refine S_c rfl rfl rfl (C_call (find_s ⟨_, _, rfl, by assumption⟩) rfl rfl ⟨_, _, rfl, ⟨_, _, rfl, rfl, rfl⟩, rfl⟩ (cal rfl) ?_); rintro h0_4 _ l0_4 ⟨vf0_4, rfl, pn0_4, qn0_4, rfl, fn0_4⟩; replace fn0_2 := fn0_2.up l0_4; replace h3 := h3.up l0_4; replace hl := hl.up l0_4; replace hf := hf.up l0_4; replace h1 := h1.up l0_4; replace hf' := hf'.up l0_4; replace h2 := h2.up l0_4; refine Tm ?_; refine Tx ?_; refine Tx ?_; refine Tal ?_; intro b0_5; refine Tw u0 ?_; refine Tm ?_; refine On ?_; refine WP_seq ?_; refine R_draw (n := 17) mixed rfl ?_; refine Va 0 ?_; refine Vm 1 ?_; refine Va 1 ?_; refine A_q (m' := 3) rfl rfl rfl (Q_not rfl rfl) rfl (by decide +kernel) ?_; refine Va 2 ?_; refine Vm 7 ?_; refine Va 3 ?_; refine Vgs ?_ ?_ <;> intro c0_6 <;> (first | simp [*] at c0_6; done | try simp at c0_6); refine Va 3 ?_; refine Vn 15 ?_; refine Va 4 ?_; refine Vn 31 ?_; refine Va 5 ?_; refine A_q (m' := 63) rfl rfl rfl (Q_pick_t rfl rfl rfl) rfl (by decide +kernel) ?_; refine Va 6 ?_; refine Vm 127 ?_; refine Va 7 ?_; refine Vn 255 ?_; refine Va 8 ?_; refine Vn 511 ?_; refine Va 9 ?_; refine Vn 1023 ?_; refine Va 10 ?_; refine Vn 2047 ?_; refine Va 11 ?_; refine Vn 4095 ?_; refine Va 12 ?_; refine Vn 8191 ?_; refine Va 13 ?_; refine Vn 16383 ?_; refine Va 14 ?_; refine Vn 32767 ?_; refine Va 15 ?_; refine A_q (m' := 65535) rfl rfl rfl (Q_pick_t rfl rfl rfl) rfl (by decide +kernel) ?_; refine Va 16 ?_; refine Vs 131071 ?_; refine A_done (by decide +kernel) ?_; refine then_n ?_; refine WP_ret ?_))
    refine pret (.inl rfl) rfl ⟨_, _, rfl, rfl, rfl⟩ ?_
    simp only [resOf]; rw [disagree_none1 e1]
  | some x =>
    cases e2 : findG g (i1, i2) with
    | none =>
      (focus (refine Wr ?_; refine Tbx ?_; intro b1_1; refine Tm ?_; refine On ?_; refine Wr ?_; refine Tl ?_; refine Lp ?_; refine Tl ?_; refine Lg m0 ?_; refine S_c rfl rfl rfl (C_call (find_s ⟨_, _, rfl, by assumption⟩) rfl rfl ⟨_, _, rfl, ⟨_, _, rfl, rfl, rfl⟩, rfl⟩ (cal rfl) ?_); rintro h1_2 _ l1_2 ⟨vf1_2, rfl, pn1_2, qn1_2, rfl, fn1_2⟩; replace h3 := h3.up l1_2; replace hl := hl.up l1_2; replace hf := hf.up l1_2; replace h1 := h1.up l1_2; replace hf' := hf'.up l1_2; replace h2 := h2.up l1_2; refine Tm ?_; refine Tx ?_; refine Tx ?_; refine Tal ?_; intro b1_3; refine Tw u0 ?_; refine Tm ?_; refine On ?_; refine Wr ?_; refine Tl ?_; refine Lp ?_; refine Tl ?_; refine Lg m1 ?_; refine S_c rfl rfl rfl (C_call (find_s ⟨_, _, rfl, by assumption⟩) rfl rfl ⟨_, _, rfl, ⟨_, _, rfl, rfl, rfl⟩, rfl⟩ (cal rfl) ?_); rintro h1_4 _ l1_4 ⟨vf1_4, rfl, pn1_4, qn1_4, rfl, fn1_4⟩; replace fn1_2 := fn1_2.up l1_4; replace h3 := h3.up l1_4; replace hl := hl.up l1_4; replace hf := hf.up l1_4; replace h1 := h1.up l1_4; replace hf' := hf'.up l1_4; replace h2 := h2.up l1_4; refine Tm ?_; refine Tx ?_; refine Tx ?_; refine Tal ?_; intro b1_5; refine Tw u0 ?_; refine Tm ?_; refine On ?_; refine WP_seq ?_; refine R_draw (n := 17) mixed rfl ?_; refine Va 0 ?_; refine Vm 1 ?_; refine Va 1 ?_; refine A_q (m' := 3) rfl rfl rfl (Q_not rfl rfl) rfl (by decide +kernel) ?_; refine Va 2 ?_; refine Vm 7 ?_; refine Va 3 ?_; refine Vgs ?_ ?_ <;> intro c1_6 <;> (first | simp [*] at c1_6; done | try simp at c1_6); refine Va 3 ?_; refine Vgm 15 ?_; refine Va 4 ?_; refine A_gq (m' := 31) rfl rfl rfl rfl rfl rfl (Q_not rfl rfl) rfl (by decide +kernel) ?_; refine Va 5 ?_; refine A_q (m' := 63) rfl rfl rfl (Q_pick_f rfl rfl rfl) rfl (by decide +kernel) ?_; refine Va 6 ?_; refine Vm 127 ?_; refine Va 7 ?_; refine Vgs ?_ ?_ <;> intro c1_7 <;> (first | simp [*] at c1_7; done | try simp at c1_7); refine Va 7 ?_; refine Vn 255 ?_; refine Va 8 ?_; refine Vn 511 ?_; refine Va 9 ?_; refine Vn 1023 ?_; refine Va 10 ?_; refine Vn 2047 ?_; refine Va 11 ?_; refine Vn 4095 ?_; refine Va 12 ?_; refine Vn 8191 ?_; refine Va 13 ?_; refine Vn 16383 ?_; refine Va 14 ?_; refine Vn 32767 ?_; refine Va 15 ?_; refine A_q (m' := 65535) rfl rfl rfl (Q_pick_t rfl rfl rfl) rfl (by decide +kernel) ?_; refine Va 16 ?_; refine Vs 131071 ?_; refine A_done (by decide +kernel) ?_; refine then_n ?_; refine WP_ret ?_))
      refine pret (.inl rfl) rfl ⟨_, _, rfl, rfl, rfl⟩ ?_
      simp only [resOf]; rw [disagree_none2 e2]
    | some y =>
      (focus (refine Wr ?_; refine Tbx ?_; intro b2_1; refine Tm ?_; refine On ?_; refine Wr ?_; refine Tl ?_; refine Lp ?_; refine Tl ?_; refine Lg m0 ?_; refine S_c rfl rfl rfl (C_call (find_s ⟨_, _, rfl, by assumption⟩) rfl rfl ⟨_, _, rfl, ⟨_, _, rfl, rfl, rfl⟩, rfl⟩ (cal rfl) ?_); rintro h2_2 _ l2_2 ⟨vf2_2, rfl, pn2_2, qn2_2, rfl, fn2_2⟩; replace h3 := h3.up l2_2; replace hl := hl.up l2_2; replace hf := hf.up l2_2; replace h1 := h1.up l2_2; replace hf' := hf'.up l2_2; replace h2 := h2.up l2_2; refine Tm ?_; refine Tx ?_; refine Tx ?_; refine Tal ?_; intro b2_3; refine Tw u0 ?_; refine Tm ?_; refine On ?_; refine Wr ?_; refine Tl ?_; refine Lp ?_; refine Tl ?_; refine Lg m1 ?_; refine S_c rfl rfl rfl (C_call (find_s ⟨_, _, rfl, by assumption⟩) rfl rfl ⟨_, _, rfl, ⟨_, _, rfl, rfl, rfl⟩, rfl⟩ (cal rfl) ?_); rintro h2_4 _ l2_4 ⟨vf2_4, rfl, pn2_4, qn2_4, rfl, fn2_4⟩; replace fn2_2 := fn2_2.up l2_4; replace h3 := h3.up l2_4; replace hl := hl.up l2_4; replace hf := hf.up l2_4; replace h1 := h1.up l2_4; replace hf' := hf'.up l2_4; replace h2 := h2.up l2_4; refine Tm ?_; refine Tx ?_; refine Tx ?_; refine Tal ?_; intro b2_5; refine Tw u0 ?_; refine Tm ?_; refine On ?_; refine WP_seq ?_; refine R_draw (n := 17) mixed rfl ?_; refine Va 0 ?_; refine Vm 1 ?_; refine Va 1 ?_; refine A_q (m' := 3) rfl rfl rfl (Q_not rfl rfl) rfl (by decide +kernel) ?_; refine Va 2 ?_; refine Vm 7 ?_; refine Va 3 ?_; refine Vgs ?_ ?_ <;> intro c2_6 <;> (first | simp [*] at c2_6; done | try simp at c2_6); refine Va 3 ?_; refine Vgm 15 ?_; refine Va 4 ?_; refine A_gq (m' := 31) rfl rfl rfl rfl rfl rfl (Q_not rfl rfl) rfl (by decide +kernel) ?_; refine Va 5 ?_; refine A_q (m' := 63) rfl rfl rfl (Q_pick_f rfl rfl rfl) rfl (by decide +kernel) ?_; refine Va 6 ?_; refine Vm 127 ?_; refine Va 7 ?_; refine Vgs ?_ ?_ <;> intro c2_7 <;> (first | simp [*] at c2_7; done | try simp at c2_7); refine Va 7 ?_; refine Vgl 255 ?_; refine Lg m1 ?_; refine Va 8 ?_; refine Vgl 511 ?_; refine L_one (Rd.pers ‹_›) (ty rfl) ?_; refine Va 10 ?_; refine Vgl 1535 ?_; refine Lg m0 ?_; refine Va 11 ?_; refine Vgl 3583 ?_; refine L_one (Rd.pers ‹_›) (ty rfl) ?_; refine Va 9 ?_; refine A_gc (m' := 4095) rfl rfl rfl rfl rfl rfl rfl (by decide +kernel) (C_call (plain_s ⟨_, _, rfl, by assumption⟩ ‹_›) rfl rfl ⟨_, _, rfl, ⟨_, _, rfl, rfl, rfl⟩, rfl⟩ (cal rfl) ?_); rintro h2_8 _ l2_8 ⟨pq2_8, qq2_8, rfl, gg2_8⟩; replace fn2_4 := fn2_4.up l2_8; replace fn2_2 := fn2_2.up l2_8; replace h3 := h3.up l2_8; replace hl := hl.up l2_8; replace hf := hf.up l2_8; replace h1 := h1.up l2_8; replace hf' := hf'.up l2_8; replace h2 := h2.up l2_8; refine Va 12 ?_; refine A_gc (m' := 8191) rfl rfl rfl rfl rfl rfl rfl (by decide +kernel) (C_call (plain_s ⟨_, _, rfl, by assumption⟩ ‹_›) rfl rfl ⟨_, _, rfl, ⟨_, _, rfl, rfl, rfl⟩, rfl⟩ (cal rfl) ?_); rintro h2_9 _ l2_9 ⟨pq2_9, qq2_9, rfl, gg2_9⟩; replace gg2_8 := gg2_8.up l2_9; replace fn2_4 := fn2_4.up l2_9; replace fn2_2 := fn2_2.up l2_9; replace h3 := h3.up l2_9; replace hl := hl.up l2_9; replace hf := hf.up l2_9; replace h1 := h1.up l2_9; replace hf' := hf'.up l2_9; replace h2 := h2.up l2_9; refine Va 13 ?_; refine A_gc (m' := 16383) rfl rfl rfl rfl rfl rfl rfl (by decide +kernel) (C_callv (equal_s (g := [_]) (k := [_]) ‹_› ‹_›) rfl rfl ⟨_, _, rfl, ⟨_, _, rfl, rfl, rfl⟩, rfl⟩ (cal rfl) ?_); refine Va 14 ?_; refine A_gq (m' := 32767) rfl rfl rfl rfl rfl rfl (Q_not rfl rfl) rfl (by decide +kernel) ?_; refine Va 15 ?_; refine A_q (m' := 65535) rfl rfl rfl (Q_pick_f rfl rfl rfl) rfl (by decide +kernel) ?_; refine Va 16 ?_; refine Vs 131071 ?_; refine A_done (by decide +kernel) ?_; refine then_n ?_; refine WP_ret ?_))
      refine pret (.inl rfl) rfl ⟨_, _, rfl, rfl, rfl⟩ ?_
      simp only [resOf]; rw [disagree_some e1 e2, e1, e2, Option.getD_some, Option.getD_some, one_eq]
end Go.Proofs.YtfhoecgiahpddaaGreat
/-
  CONTRACTS: the reference's plain nodes (refmeshref55.plain).
-/
set_option linter.all false
namespace Go.Proofs.YtfhoecgiahpddaaGreat
open Go.Mesh Go.RowKit
set_option maxRecDepth 100000
set_option linter.unusedVariables false
set_option maxHeartbeats 4000000
attribute [local irreducible] WP OPS ANY ANYo LG LV FSpec PSpec QOP OPc OPw thenQ blockQ roundQ roundF retQ retM Rd At SLB OS cmpI orI cmpID namedB valB nodeB kindB validG valAux idxI findG zeroV viewOf vwAt idxOf recv flyB scionOf moveOf numberedOf idOf valueOf mget mput localB carriedB msgB sizesB smallV fewB stubOf followF followOf flOf flightsOf flPre plainV plainN plainTo disagree
theorem plainV_take {kd : Int} {live : List ID} {fs : List Val} {k : Nat} {x : Val} (hx : fs[k]? = some x) : (fs.take (k + 1)).map (plainV kd live) = (fs.take k).map (plainV kd live) ++ [plainV kd live x] := by
  simp [List.take_add_one, hx]
theorem plainV_yes {kd : Int} {live : List ID} {x : Val} (h : kd = 2 ∧ x.1 = 2 ∧ x.2.2 ∉ live) : plainV kd live x = (0, 0, (0, 0)) := by rw [plainV, if_pos h]
theorem plainV_no {kd : Int} {live : List ID} {x : Val} (h : ¬ (kd = 2 ∧ x.1 = 2 ∧ x.2.2 ∉ live)) : plainV kd live x = x := by rw [plainV, if_neg h]
theorem refPlain_s {h : Frag} {n : Nd} {us : List Value} {a : Value} {live : List ID} (hn : NodeC 4398046511104 h n us) (hl : SL h 2 IDC a live) : PSpec Tryz.prog 75 #[.agg us.toArray, a] h
    (fun h' v => ∃ p c, v = .agg #[.int .i64 (plainN live n).id.1, .int .i64 (plainN live n).id.2, .int .i64 (plainN live n).kind, .int .i64 (plainN live n).cls, .slice p (plainN live n).fields.length c] ∧ SL h' 4 ValC (.slice p (plainN live n).fields.length c) (plainN live n).fields) := by
  obtain ⟨p, c, rfl, hf⟩ := hn
  obtain ⟨⟨i1, i2⟩, kd, cl, fs⟩ := n
  obtain ⟨pl, ql, rfl⟩ := hl.slice
  simp only at hf
  have hfl := hf.le
  refine pspec_of (vs := [.agg [Value.int .i64 i1, .int .i64 i2, .int .i64 kd, .int .i64 cl, .slice p fs.length c].toArray, .slice pl live.length ql]) Tryz.func75 Tryz.ntmps75 rfl rfl ?_
  (focus (refine Wr ?_; refine Tbx ?_; intro b0_1; refine Tal ?_; intro b0_2; refine On ?_; refine Wr ?_; refine S_c rfl rfl rfl (C_buildSlice rfl (elm rfl) (zer rfl) rfl rfl rfl rfl ?_); intro b0_3; refine Tm ?_; refine On ?_; refine WP_seq ?_; refine Wr ?_; refine Tm ?_; refine On ?_; refine WP_block ?_))
  refine WP.perm (L2 := (b0_1, cells [.int .i64 i1, .int .i64 i2, .int .i64 kd, .int .i64 cl, .slice p fs.length c] 38) :: (b0_2, cells [.int .i64 0, .int .i64 0, .int .i64 0, .int .i64 0, .slice none 0 0] 38) :: ([(b0_3, cells [] 42)] ++ [])) perm3 ?_
  (refine WP_loopF (α := Nat × List Val × Option Addr × Nat × Hp) [4, 2, 1] (fun (s : Nat × List Val × Option Addr × Nat × Hp) => fs.length - s.1) (fun (s : Nat × List Val × Option Addr × Nat × Hp) => (b0_1, cells [.int .i64 i1, .int .i64 i2, .int .i64 kd, .int .i64 cl, .slice p fs.length c] 38) :: (b0_2, cells [.int .i64 0, .int .i64 0, .int .i64 0, .int .i64 0, .slice none 0 0] 38) :: (s.2.2.2.2 ++ [])) (fun (s : Nat × List Val × Option Addr × Nat × Hp) => [(6, .int .i64 (s.1 : Int)), (5, .slice s.2.2.1 s.2.1.length s.2.2.2.1)]) (fun hh (s : Nat × List Val × Option Addr × Nat × Hp) => hh = h ∧ s.1 ≤ fs.length ∧ s.2.1 = (fs.take s.1).map (plainV kd live) ∧ OS h 42 4 ValC (.slice s.2.2.1 s.2.1.length s.2.2.2.1) s.2.1 s.2.2.2.2) (0, [], some ⟨b0_3, 0, none⟩, 0, [(b0_3, cells [] 42)]) ⟨_, _, rfl, ⟨_, _, rfl, ⟨_, _, rfl, rfl, rfl⟩, rfl⟩, rfl⟩ ?_ (by repeat' first | exact sR _ | exact sA _ _ | exact sN _ | apply s2 | apply s1) (by repeat' first | exact trivial | refine ⟨rfl, ?_⟩) ?_)
  · exact ⟨rfl, Nat.zero_le _, rfl, OS.lit0 _ _ _ _ _⟩
  rintro h1 ⟨k, out, p1, c1, M⟩ _ ⟨rfl, hk, ho, hO⟩
  simp only at hk ho hO
  dsimp only
  have hol : out.length = k := by rw [ho]; simp; omega
  by_cases hlt : k < fs.length
  · obtain ⟨⟨x1, x2, x3, x4⟩, ex⟩ := get_of hlt
    have hmt := plainV_take (kd := kd) (live := live) ex
    rw [← ho] at hmt
    (focus (refine WP_seq ?_; refine Wr ?_; refine Tm ?_; refine Tf ?_; refine Tl ?_; refine Lo m0 ?_; refine Tlen ?_; refine Tc ?_; refine On ?_; refine Wc ?_ ?_ <;> intro c2_1 <;> (first | simp [*] at c2_1; done | try simp at c2_1); refine WP_skip ?_; refine then_n ?_; refine WP_seq ?_; refine WP_block ?_; refine Wr ?_; refine Tf ?_; refine Tl ?_; refine Lo m0 ?_; refine Tm ?_; refine Ti ?_; refine Tl ?_; refine Le ?_; rintro _ _ _ rfl; refine Tal ?_; intro b2_3; refine Tw u0 ?_; refine On ?_; refine WP_seq ?_; refine Wr ?_; refine Tf ?_; refine Tl ?_; refine Lo m1 ?_; refine Tc ?_; refine Tm ?_; refine Ugs ?_ ?_ <;> intro c2_4 <;> (first | simp [*] at c2_4; done | try simp at c2_4); (focus (refine Ugf ?_; refine Ugl ?_; refine Lo m0 ?_; refine Ugc ?_; refine Tp1 ?_; refine Tm ?_; refine Ugs ?_ ?_ <;> intro c2_5 <;> (first | simp [*] at c2_5; done | try simp at c2_5); (focus (refine Ugm ?_; refine Ugf ?_; refine Ugl ?_; refine L_sub (Rd.own m0) (ty rfl) rfl ?_; refine S_gc rfl rfl rfl rfl rfl rfl (C_callv (refHas_s (x := (_, _)) ‹_›) rfl rfl ⟨_, _, rfl, ⟨_, _, rfl, rfl, rfl⟩, rfl⟩ (cal rfl) ?_); refine S_gq rfl rfl rfl rfl rfl rfl (Q_not rfl rfl) ?_; refine Tp1 ?_; refine On ?_; refine Wc ?_ ?_ <;> intro c2_6 <;> (first | simp [*] at c2_6; done | try simp at c2_6); (focus (refine R_region ?_; refine S_q rfl rfl rfl (Q_build rfl (by decide +kernel) (zer rfl) rfl rfl) ?_; refine Tw u0 ?_; refine On ?_; refine R_region ?_; refine Tm ?_; refine Tl ?_; refine Lg m0 ?_; refine S_c rfl rfl rfl (C_buildSlice rfl (elm rfl) (zer rfl) rfl ⟨_, _, _, rfl, rfl, rfl, rfl, rfl, rfl⟩ rfl rfl ?_); intro b2_7; refine S_w rfl rfl rfl (W_app1 (y := (_, _, (_, _))) [_, _, _] _ hO rfl rfl rfl rfl rfl rfl (elm rfl) (zer rfl) rfl rfl rfl rfl rfl (by (try simp only [lA]); omega) (by (try simp only [lA]); omega) ?_); rintro p2_8 q2_8 m2_8 o2_8; refine Tm ?_; refine OPS_nil ?_; refine block_n ?_; refine then_n ?_; refine R_region ?_; refine Tm ?_; refine Ta ?_; refine Tm ?_; refine OPS_nil ?_)); rotate_left 1; (focus (refine WP_skip ?_; refine then_n ?_; refine R_region ?_; refine Tm ?_; refine Tl ?_; refine Lg m0 ?_; refine S_c rfl rfl rfl (C_buildSlice rfl (elm rfl) (zer rfl) rfl ⟨_, _, _, rfl, rfl, rfl, rfl, rfl, rfl⟩ rfl rfl ?_); intro b2_9; refine S_w rfl rfl rfl (W_app1 [_, _, _] _ hO rfl rfl rfl rfl rfl rfl (elm rfl) (zer rfl) rfl rfl rfl rfl rfl (by (try simp only [lA]); omega) (by (try simp only [lA]); omega) ?_); rintro p2_10 q2_10 m2_10 o2_10; refine Tm ?_; refine OPS_nil ?_; refine block_n ?_; refine then_n ?_; refine R_region ?_; refine Tm ?_; refine Ta ?_; refine Tm ?_; refine OPS_nil ?_)); rotate_left 1)); rotate_left 2; (focus (refine Tn ?_; refine Tn ?_; refine Tn ?_; refine Tn ?_; refine Tn ?_; refine Tp0 ?_; refine On ?_; refine cond_f rfl ?_; refine WP_skip ?_; refine then_n ?_; refine R_region ?_; refine Tm ?_; refine Tl ?_; refine Lg m0 ?_; refine S_c rfl rfl rfl (C_buildSlice rfl (elm rfl) (zer rfl) rfl ⟨_, _, _, rfl, rfl, rfl, rfl, rfl, rfl⟩ rfl rfl ?_); intro b2_11; refine S_w rfl rfl rfl (W_app1 [_, _, _] _ hO rfl rfl rfl rfl rfl rfl (elm rfl) (zer rfl) rfl rfl rfl rfl rfl (by (try simp only [lA]); omega) (by (try simp only [lA]); omega) ?_); rintro p2_12 q2_12 m2_12 o2_12; refine Tm ?_; refine OPS_nil ?_; refine block_n ?_; refine then_n ?_; refine R_region ?_; refine Tm ?_; refine Ta ?_; refine Tm ?_; refine OPS_nil ?_)); rotate_left 1)); rotate_left 3; (focus (refine Tn ?_; refine Tn ?_; refine Tn ?_; refine Tp0 ?_; refine Tm ?_; refine Tn ?_; refine Tn ?_; refine Tn ?_; refine Tn ?_; refine Tn ?_; refine Tp0 ?_; refine On ?_; refine cond_f rfl ?_; refine WP_skip ?_; refine then_n ?_; refine R_region ?_; refine Tm ?_; refine Tl ?_; refine Lg m0 ?_; refine S_c rfl rfl rfl (C_buildSlice rfl (elm rfl) (zer rfl) rfl ⟨_, _, _, rfl, rfl, rfl, rfl, rfl, rfl⟩ rfl rfl ?_); intro b2_13; refine S_w rfl rfl rfl (W_app1 [_, _, _] _ hO rfl rfl rfl rfl rfl rfl (elm rfl) (zer rfl) rfl rfl rfl rfl rfl (by (try simp only [lA]); omega) (by (try simp only [lA]); omega) ?_); rintro p2_14 q2_14 m2_14 o2_14; refine Tm ?_; refine OPS_nil ?_; refine block_n ?_; refine then_n ?_; refine R_region ?_; refine Tm ?_; refine Ta ?_; refine Tm ?_; refine OPS_nil ?_)); rotate_left 1))
    · rw [plainV_yes ⟨c2_4, c2_5, c2_6⟩] at hmt
      exact roundF_n (k + 1, out ++ [(0, 0, (0, 0))], p2_8, q2_8, m2_8) (by simp only; omega) ⟨rfl, by simp only; omega, hmt.symm, o2_8⟩ (by repeat' first | exact sR _ | exact sA _ _ | exact sN _ | apply s2 | apply s1) (by repeat' first | exact trivial | refine ⟨rfl, ?_⟩)
    · rw [plainV_no (by simp_all)] at hmt
      exact roundF_n (k + 1, out ++ [(x1, x2, (x3, x4))], p2_10, q2_10, m2_10) (by simp only; omega) ⟨rfl, by simp only; omega, hmt.symm, o2_10⟩ (by repeat' first | exact sR _ | exact sA _ _ | exact sN _ | apply s2 | apply s1) (by repeat' first | exact trivial | refine ⟨rfl, ?_⟩)
    · rw [plainV_no (by simp_all)] at hmt
      exact roundF_n (k + 1, out ++ [(x1, x2, (x3, x4))], p2_12, q2_12, m2_12) (by simp only; omega) ⟨rfl, by simp only; omega, hmt.symm, o2_12⟩ (by repeat' first | exact sR _ | exact sA _ _ | exact sN _ | apply s2 | apply s1) (by repeat' first | exact trivial | refine ⟨rfl, ?_⟩)
    · rw [plainV_no (by simp_all)] at hmt
      exact roundF_n (k + 1, out ++ [(x1, x2, (x3, x4))], p2_14, q2_14, m2_14) (by simp only; omega) ⟨rfl, by simp only; omega, hmt.symm, o2_14⟩ (by repeat' first | exact sR _ | exact sA _ _ | exact sN _ | apply s2 | apply s1) (by repeat' first | exact trivial | refine ⟨rfl, ?_⟩)
  have hge : k = fs.length := by omega
  subst hge
  rw [List.take_length] at ho
  have hpn : plainN live ⟨(i1, i2), kd, cl, fs⟩ = ⟨(i1, i2), kd, cl, out⟩ := by rw [plainN_def, ho]
  rw [hpn]
  (focus (refine WP_seq ?_; refine Wr ?_; refine Tm ?_; refine Tf ?_; refine Tl ?_; refine Lo m0 ?_; refine Tlen ?_; refine Tc ?_; refine On ?_; refine Wc ?_ ?_ <;> intro c3_1 <;> (first | simp [*] at c3_1; done | try simp at c3_1); refine WP_exit ?_; refine then_e ?_; refine roundF_e ?_; refine block_e ?_; refine then_n ?_; refine Wr ?_; refine Tm ?_; refine Tf ?_; refine S_w0 rfl rfl (W_fld rfl rfl rfl (ty rfl) u0 rfl rfl rfl rfl ?_); refine On ?_; refine Wr ?_; refine Tl ?_; refine Lg m0 ?_; refine Tw u1 ?_; refine On ?_; refine WP_ret ?_))
  refine pretKM [_, _] M _ rfl (.inl rfl) rfl ⟨_, _, _, rfl, Loads_agg (Rd.own m1) (ty rfl) rfl, rfl, rfl⟩ fun h' hl' hm' => ?_
  exact ⟨p1, c1, rfl, hO.sl hl' ValC_mono hm' (by omega)⟩
end Go.Proofs.YtfhoecgiahpddaaGreat
/-
  CONTRACTS: observer.Agrees.
-/
set_option linter.all false
namespace Go.Proofs.YtfhoecgiahpddaaGreat
open Go.Mesh Go.RowKit
set_option maxRecDepth 100000
set_option linter.unusedVariables false
set_option maxHeartbeats 4000000
attribute [local irreducible] WP OPS ANY ANYo LG LV FSpec PSpec QOP OPc OPw thenQ blockQ roundQ roundF retQ retM Rd At SLB OS cmpI orI cmpID namedB valB nodeB kindB validG valAux idxI findG zeroV viewOf vwAt idxOf recv flyB scionOf moveOf numberedOf idOf valueOf mget mput localB carriedB msgB sizesB smallV fewB stubOf followF followOf flOf flightsOf flPre plainV plainN plainTo disagree setL minusL compactL putI mergeN insN insAll unionR NMap Coll retN bodyS GMap Dfs refsV refsOf reachL movedOf movedG graphParts graphR isMove flightIDs mailIDs viewIDs rawRoots rootsR reachR deadN viewObjs garbageOf garbageR objsL
/-- whether a fleet agrees with a graph and its reached identities -/
noncomputable def agreesB (vs : List View) (g : List Nd) (ids : List ID) : Bool := decide ((graphR vs).2 = 0) && (decide (reachR vs = setL ids) && !(reachR vs).any (disagree (graphR vs).1 g (reachR vs)))
theorem agreesB_err {vs : List View} {g : List Nd} {ids : List ID} (h : ¬ (graphR vs).2 = 0) : agreesB vs g ids = false := by rw [agreesB, decide_eq_false h]; rfl
theorem agreesB_ne {vs : List View} {g : List Nd} {ids : List ID} (h : ¬ reachR vs = setL ids) : agreesB vs g ids = false := by rw [agreesB, decide_eq_false h, Bool.false_and, Bool.and_false]
theorem agreesB_eq {vs : List View} {g : List Nd} {ids : List ID} (h1 : (graphR vs).2 = 0) (h : reachR vs = setL ids) : agreesB vs g ids = !(reachR vs).any (disagree (graphR vs).1 g (reachR vs)) := by rw [agreesB, decide_eq_true h1, decide_eq_true h]; rfl
attribute [local irreducible] agreesB
theorem setM_s {h : Frag} {a : Value} {xs : List ID} (hx : SL h 2 IDC a xs) : PSpec Tryz.prog 42 #[a] h (fun h' v => ∃ p c, v = .slice p (setL xs).length c ∧ SL h' 2 IDC (.slice p (setL xs).length c) (setL xs)) := by
  have hxl := hx.le
  have hsl := setL_length xs
  obtain ⟨p, cap, rfl⟩ := hx.slice
  refine pspec_of (vs := [.slice p xs.length cap]) Tryz.func42 Tryz.ntmps42 rfl rfl ?_
  (focus (refine Wr ?_; refine Tm ?_; refine On ?_; refine Wr ?_; refine Tm ?_; refine S_w rfl rfl rfl (W_callF [] _ (cloneID_s ‹_›) rfl rfl ⟨_, _, rfl, rfl, rfl⟩ (cal rfl) rfl ?_); rintro h0_1 m0_1 _ l0_1 ⟨p0_1, q0_1, rfl, o0_1⟩; replace hx := hx.up l0_1; refine Tm ?_; refine On ?_; refine Wr ?_; refine Tm ?_; refine S_w rfl rfl rfl (W_callF [] _ (sortID_s ‹_› (by omega) (cal rfl) (fun _ _ => compareID_s _ _ _)) rfl rfl ⟨_, _, rfl, ⟨_, _, rfl, rfl, rfl⟩, rfl⟩ (cal rfl) rfl ?_); rintro h0_2 m0_2 _ l0_2 ⟨e0_2, rfl, ys0_2, hp0_2, hn0_2, hs0_2, o0_2⟩; replace o0_1 := o0_1.up l0_2; replace hx := hx.up l0_2; replace o0_2 := o0_2.up l0_2; refine On ?_; refine Wr ?_; refine Tm ?_; refine S_w rfl rfl rfl (W_callF [] _ (compact_s ‹_› (by omega)) rfl rfl ⟨_, _, rfl, rfl, rfl⟩ (cal rfl) rfl ?_); rintro h0_3 m0_3 _ l0_3 ⟨e0_3, p0_3, q0_3, rfl, o0_3⟩; replace o0_1 := o0_1.up l0_3; replace hx := hx.up l0_3; replace o0_2 := o0_2.up l0_3; refine Tm ?_; refine On ?_; refine WP_ret ?_))
  rw [compact_set hp0_2 hs0_2] at o0_3
  rw [compact_set hp0_2 hs0_2]
  refine pretKM [] m0_3 _ rfl (.inl rfl) rfl ⟨_, _, rfl, rfl, rfl⟩ fun h' hl' hm' => ?_
  exact ⟨_, _, rfl, o0_3.sl hl' IDC_mono hm' (by omega)⟩
theorem agrees_s {h : Frag} {a b : Value} {vs : List View} {us : List Value} {g : List Nd} {ids : List ID} (hs : SL h 13 (ViewC 4398046511104) a vs) (sm : Small vs) (hg : GraphC 4398046511104 h g us) (hi : SL h 2 IDC b ids) (hib : ids.length ≤ 1000000) : PSpec Tryz.prog 29 #[a, .agg us.toArray, b] h (fun _ v => v = .bool (agreesB vs g ids)) := by
  obtain ⟨pv, cv, rfl⟩ := hs.slice
  obtain ⟨pg, cg, rfl, hf⟩ := hg
  obtain ⟨pi, ci, rfl⟩ := hi.slice
  have hrr := sm.reach
  refine pspec_of (vs := [.slice pv vs.length cv, .agg [Value.slice pg g.length cg].toArray, .slice pi ids.length ci]) Tryz.func29 Tryz.ntmps29 rfl rfl ?_
  (focus (refine Wr ?_; refine Tbx ?_; intro b0_1; refine Tm ?_; refine On ?_; refine Wr ?_; refine Tm ?_; refine S_c rfl rfl rfl (C_call (graph_s ‹_› ‹_›) rfl rfl ⟨_, _, rfl, rfl, rfl⟩ (cal rfl) ?_); rintro h0_2 _ l0_2 ⟨_, rfl, pg0_2, qg0_2, rfl, fg0_2⟩; replace hs := hs.up l0_2; replace hf := hf.up l0_2; replace hi := hi.up l0_2; refine Tm ?_; refine Tx ?_; refine Tx ?_; refine Tal ?_; intro b0_3; refine Tw u0 ?_; refine Tm ?_; refine On ?_; refine Wr ?_; refine Tm ?_; refine S_c rfl rfl rfl (C_call (reachable_s ‹_› ‹_›) rfl rfl ⟨_, _, rfl, rfl, rfl⟩ (cal rfl) ?_); rintro h0_4 _ l0_4 ⟨p0_4, q0_4, rfl, f0_4⟩; replace fg0_2 := fg0_2.up l0_4; replace hs := hs.up l0_4; replace hf := hf.up l0_4; replace hi := hi.up l0_4; refine Tal ?_; intro b0_5; refine S_w0 rfl rfl (W_one rfl rfl rfl (ty rfl) u0 rfl rfl rfl ?_); refine On ?_; refine WP_seq ?_))
  (focus (refine WP_keepM [] [_] _ rfl ?_; rintro h1_k l1_k k1_k; have a1_k := at_of_keep k1_k; clear k1_k; replace f0_4 := f0_4.up l1_k; replace fg0_2 := fg0_2.up l1_k; replace hs := hs.up l1_k; replace hf := hf.up l1_k; replace hi := hi.up l1_k))
  (focus (refine WP_keepM [] [_] _ rfl ?_; rintro h2_k l2_k k2_k; have a2_k := at_of_keep k2_k; clear k2_k; replace a1_k := a1_k.up l2_k; replace f0_4 := f0_4.up l2_k; replace fg0_2 := fg0_2.up l2_k; replace hs := hs.up l2_k; replace hf := hf.up l2_k; replace hi := hi.up l2_k))
  (focus (refine WP_keepM [] [_] _ rfl ?_; rintro h3_k l3_k k3_k; have a3_k := at_of_keep k3_k; clear k3_k; replace a2_k := a2_k.up l3_k; replace a1_k := a1_k.up l3_k; replace f0_4 := f0_4.up l3_k; replace fg0_2 := fg0_2.up l3_k; replace hs := hs.up l3_k; replace hf := hf.up l3_k; replace hi := hi.up l3_k))
  by_cases he : (graphR vs).2 = 0
  · (focus (refine WP_seq ?_; refine R_draw (n := 9) mixed rfl ?_; refine Va 0 ?_; refine Vm 1 ?_; refine Va 1 ?_; refine A_q (m' := 3) rfl rfl rfl (Q_cmp rfl rfl rfl rfl) rfl (by decide +kernel) ?_; refine Va 2 ?_; refine Vm 7 ?_; refine Va 3 ?_; refine Vgs ?_ ?_ <;> intro c4_1 <;> (first | simp [*] at c4_1; done | try simp at c4_1); refine Va 3 ?_; refine Vgl 15 ?_; refine L_one (Rd.pers ‹_›) (ty rfl) ?_; refine Va 4 ?_; refine Vgm 31 ?_; refine Va 5 ?_; refine A_gc (m' := 63) rfl rfl rfl rfl rfl rfl rfl (by decide +kernel) (C_call (setM_s ‹_›) rfl rfl ⟨_, _, rfl, rfl, rfl⟩ (cal rfl) ?_); rintro h4_2 _ l4_2 ⟨p4_2, q4_2, rfl, f4_2⟩; replace a3_k := a3_k.up l4_2; replace a2_k := a2_k.up l4_2; replace a1_k := a1_k.up l4_2; replace f0_4 := f0_4.up l4_2; replace fg0_2 := fg0_2.up l4_2; replace hs := hs.up l4_2; replace hf := hf.up l4_2; replace hi := hi.up l4_2; refine Va 6 ?_; refine A_gc (m' := 127) rfl rfl rfl rfl rfl rfl rfl (by decide +kernel) (C_callv (eqIDs_s ‹_› ‹_›) rfl rfl ⟨_, _, rfl, ⟨_, _, rfl, rfl, rfl⟩, rfl⟩ (cal rfl) ?_); refine Va 7 ?_; refine A_gq (m' := 255) rfl rfl rfl rfl rfl rfl (Q_not rfl rfl) rfl (by decide +kernel) ?_; refine Va 8 ?_; refine A_q (m' := 511) rfl rfl rfl (Q_pick_f rfl rfl rfl) rfl (by decide +kernel) ?_; refine A_done (by decide +kernel) ?_; refine then_n ?_; refine Wc ?_ ?_ <;> intro c4_3 <;> (first | simp [*] at c4_3; done | try simp at c4_3); (focus (refine Wr ?_; refine Tm ?_; refine On ?_; refine WP_ret ?_; refine then_r ?_)); rotate_left 1; (focus (refine WP_skip ?_; refine then_n ?_; refine Wr ?_; refine Tl ?_; refine L_one (Rd.pers ‹_›) (ty rfl) ?_; refine S_q rfl rfl rfl (Q_makeFunc rfl rfl ⟨_, _, rfl, ⟨_, _, rfl, ⟨_, _, rfl, rfl, rfl⟩, rfl⟩, rfl⟩) ?_)); rotate_left 1))
    · refine pret (.inl rfl) rfl ⟨_, _, rfl, rfl, rfl⟩ ?_
      simp only [resOf]; rw [agreesB_ne c4_3]
    · have hfn : ∀ (x : ID) (us : List Value), us.length = 2 → ones us = true → IDC h4_2 x us → PSpec Tryz.prog 73 ([Value.agg us.toArray] ++ [ptr b0_3 0, ptr b0_1 0, ptr b0_5 0]).toArray h4_2 (fun _ v => v = .bool (disagree (graphR vs).1 g (reachR vs) x)) := fun x us _ _ hx => by
        subst hx; exact agrees1_s a2_k ⟨_, _, rfl, fg0_2⟩ a3_k ⟨_, _, rfl, hf⟩ a1_k f0_4
      refine S_c rfl rfl rfl (C_callv (hasIDf_s (cap := [ptr b0_3 0, ptr b0_1 0, ptr b0_5 0]) f0_4 (cal rfl) hfn) rfl rfl ⟨_, _, rfl, ⟨_, _, rfl, rfl, rfl⟩, rfl⟩ (cal rfl) ?_)
      (focus (refine S_q rfl rfl rfl (Q_not rfl rfl) ?_; refine Tm ?_; refine On ?_; refine WP_ret ?_))
      refine pret (.inl rfl) rfl ⟨_, _, rfl, rfl, rfl⟩ ?_
      simp only [resOf]; rw [agreesB_eq he c4_3]
  · (focus (refine WP_seq ?_; refine R_draw (n := 9) mixed rfl ?_; refine Va 0 ?_; refine Vm 1 ?_; refine Va 1 ?_; refine A_q (m' := 3) rfl rfl rfl (Q_cmp rfl rfl rfl rfl) rfl (by decide +kernel) ?_; refine Va 2 ?_; refine Vm 7 ?_; refine Va 3 ?_; refine Vgs ?_ ?_ <;> intro c6_1 <;> (first | simp [*] at c6_1; done | try simp at c6_1); refine Va 3 ?_; refine Vn 15 ?_; refine Va 4 ?_; refine Vn 31 ?_; refine Va 5 ?_; refine Vn 63 ?_; refine Va 6 ?_; refine Vn 127 ?_; refine Va 7 ?_; refine Vn 255 ?_; refine Va 8 ?_; refine A_q (m' := 511) rfl rfl rfl (Q_pick_t rfl rfl rfl) rfl (by decide +kernel) ?_; refine A_done (by decide +kernel) ?_; refine then_n ?_; refine cond_t rfl ?_; refine Wr ?_; refine Tm ?_; refine On ?_; refine WP_ret ?_; refine then_r ?_))
    refine pret (.inl rfl) rfl ⟨_, _, rfl, rfl, rfl⟩ ?_
    simp only [resOf]; rw [agreesB_err he]
end Go.Proofs.YtfhoecgiahpddaaGreat
/-
  A REGION THAT DRAWS ITS ORDER, FOURTH PART: the same question for a pair.
-/
set_option linter.all false
namespace Go.Mesh
open Go.RowKit
set_option linter.unusedVariables false
def firstPL (ops : Array Oper) (listed : Array Bool) (i : Nat) : Bool :=
  closedB ops listed && (match ops[i]? with
    | none => false
    | some oi => tameOp oi.op && (List.range ops.size).all fun j => j == i || listed.getD j true || ancL ops listed i ops.size j || (match ops[j]? with | none => true | some oj => oi.apart ops oj && tameOp oj.op)) && (Region.ready .any ops listed).contains i
theorem fpL {ops : Array Oper} {listed : Array Bool} {i : Nat} (h : firstPL ops listed i = true) : firstP ops listed i = true := by
  unfold firstPL at h
  unfold firstP
  cases hi : ops[i]? with
  | none => rw [hi] at h; simp at h
  | some oi =>
    rw [hi] at h
    simp only [Bool.and_eq_true] at h ⊢
    obtain ⟨⟨h1, h2, h3⟩, h4⟩ := h
    refine ⟨⟨h1, h2, ?_⟩, h4⟩
    rw [List.all_eq_true] at h3 ⊢
    intro j hj
    have := h3 j hj
    simp only [Bool.or_eq_true] at this ⊢
    rcases this with ((a | a) | a) | a
    · exact .inl (.inl (.inl a))
    · exact .inl (.inl (.inr a))
    · exact .inl (.inr (ancL_anc _ _ a))
    · exact .inr a
end Go.Mesh
/-
  A REGION THAT DRAWS ITS ORDER, FIFTH PART: what holds whatever the order is.
-/
set_option linter.all false
namespace Go.Mesh
open Go.RowKit
set_option linter.unusedVariables false
section
variable {P : Program} {r : Option Nat} {N : Nat} {D : List Nat} {C : Frag → Hp → Fr → Prop} {l : List Oper} {n : Nat} {o : Oper} {h : Frag} {L : Hp} {fr : Fr}
/-- every order comes to the end 'full' -/
def famB (ops : Array Oper) (n full : Nat) : Nat → Nat → Bool
  | 0, m => Nat.beq m full && (Region.ready .any ops (lst n m)).isEmpty
  | f + 1, m => !(Region.ready .any ops (lst n m)).isEmpty && (Region.ready .any ops (lst n m)).all fun i => famB ops n full f (m ||| 2 ^ i)
def ddN : List Nat → List Nat
  | [] => []
  | x :: l => bif (ddN l).any (Nat.beq x) then ddN l else x :: ddN l
theorem mem_ddN {x : Nat} : ∀ {l : List Nat}, x ∈ l → x ∈ ddN l
  | [], h => by cases h
  | y :: l, h => by
    unfold ddN
    cases hb : (ddN l).any (Nat.beq y) with
    | true =>
      rw [cond_true]
      rcases List.mem_cons.1 h with e | e
      · subst e
        obtain ⟨z, hz, e⟩ := List.any_eq_true.1 hb
        rw [Nat.eq_of_beq_eq_true e]; exact hz
      · exact mem_ddN e
    | false =>
      rw [cond_false]
      rcases List.mem_cons.1 h with e | e
      · subst e; exact List.mem_cons_self ..
      · exact List.mem_cons_of_mem _ (mem_ddN e)
/-- the same, set by set -/
def famC (ops : Array Oper) (n full : Nat) : Nat → List Nat → Bool
  | 0, ms => ms.all fun m => Nat.beq m full && (Region.ready .any ops (lst n m)).isEmpty
  | f + 1, ms => ms.all (fun m => !(Region.ready .any ops (lst n m)).isEmpty) && famC ops n full f (ddN (ms.flatMap fun m => (Region.ready .any ops (lst n m)).map fun i => m ||| 2 ^ i))
theorem famC_famB {ops : Array Oper} {full : Nat} : ∀ (f : Nat) (ms : List Nat), famC ops n full f ms = true → ∀ m, m ∈ ms → famB ops n full f m = true
  | 0, ms, h, m, hm => by
    unfold famC at h
    unfold famB
    exact List.all_eq_true.1 h m hm
  | f + 1, ms, h, m, hm => by
    unfold famC at h
    unfold famB
    rw [Bool.and_eq_true, List.all_eq_true] at h
    rw [Bool.and_eq_true, List.all_eq_true]
    refine ⟨h.1 m hm, fun i hi => famC_famB f _ h.2 _ (mem_ddN ?_)⟩
    exact List.mem_flatMap.2 ⟨m, hm, List.mem_map.2 ⟨i, hi, rfl⟩⟩
/-- a family of facts, one for each set of what has come up -/
theorem ANY_fam {full : Nat} (I : Nat → Frag → Hp → Fr → Prop) (hstep : ∀ m h L fr i, i ∈ Region.ready .any l.toArray (lst n m) → I m h L fr → STEP P r N D l.toArray i h L fr (fun h' L' fr' => I (m ||| 2 ^ i) h' L' fr'))
    (hfin : ∀ h L fr, I full h L fr → C h L fr) : ∀ (f m : Nat) (h : Frag) (L : Hp) (fr : Fr), famB l.toArray n full f m = true → I m h L fr → ANY P r N D l.toArray f (lst n m) h L fr C
  | 0, m, h, L, fr, hB, hI => by
    unfold famB at hB
    rw [Bool.and_eq_true] at hB
    have e := Nat.eq_of_beq_eq_true hB.1
    subst e
    intro a fa
    exact ⟨by simpa using hB.2, fr, fa, hfin h L fr hI⟩
  | f + 1, m, h, L, fr, hB, hI => by
    unfold famB at hB
    rw [Bool.and_eq_true, List.all_eq_true] at hB
    intro a fa
    refine ⟨fun e => by rw [e] at hB; simp at hB, fun i hi => ?_⟩
    rw [lst_set rfl]
    exact (hstep m h L fr i hi hI a fa).mono fun a' h' L' ⟨fr', f', k⟩ => ANY_fam I hstep hfin f _ h' L' fr' (hB.2 i hi) k a' f'
theorem T_q {v : Value} {d i : Nat} {C' : Frag → Hp → Fr → Prop} (hi : nth l i = some o) (hd : o.dst = some d) (hN : Nat.blt d N = true) (hg : o.guard = none) (q : QOP P o fr h L v) (x : C' h L ((d, v) :: fr)) : STEP P r N D l.toArray i h L fr C' := by
  intro a fa
  refine Yv.step (by rw [nth_eq] at hi; simpa using hi) (.inl ⟨by simp [Region.wanted, hg], q.1, q.2 a (fun _ _ e => fa.eval e)⟩) ⟨(d, v) :: fr, ?_, x⟩
  have := fa.put (dst := o.dst) (dstOk_of hd hN) v
  rw [hd] at this ⊢
  exact this
theorem T_w0 {i : Nat} {C' : Frag → Hp → Fr → Prop} (hi : nth l i = some o) (hd : o.dst = none) (hg : o.guard = none) (hc : calmOp o.op = false) (x : OPw P r o fr h L (fun h' L' _ => C' h' L' fr)) : STEP P r N D l.toArray i h L fr C' :=
  STEP_w (by rw [nth_eq] at hi; simpa using hi) hg hc (dstOk_none hd) (by rw [hd]; exact x)
/-- what an operation makes is only read from there on -/
theorem OPc_frozen {K : OCont} (x : OPc P r o fr h L (fun h' M v => ∀ h'', le h' h'' → (∀ p, p ∈ M → h'' p.1 = some p.2) → K h'' [] v)) : OPc P r o fr h L K := by
  intro a ha w hw
  refine Oper.wpIn_mono (fun a' w' ⟨h', M, v, e, k, z⟩ => ?_) (x a ha w hw)
  obtain ⟨h'', e0, hm⟩ := keepAt (A := []) (M := M) (B := L) z.holds
  exact ⟨h'', [], v, e, k h'' e0.le hm, z.trans e0⟩
theorem tb_set {m i j : Nat} (h : (m ||| 2 ^ i).testBit j = true) : j = i ∨ m.testBit j = true := by
  rw [Nat.testBit_or, Nat.testBit_two_pow, Bool.or_eq_true, decide_eq_true_eq] at h
  exact h.elim .inr fun e => .inl e.symm
/-- what must have come up before -/
def preB (ops : Array Oper) (n i : Nat) (js : List Nat) : Bool := js.all fun j => Nat.blt j n && (match ops[i]? with | some o => o.after.any fun e => Region.binds .any e && Nat.beq e.on j | none => false)
theorem lst_getD {m j : Nat} (hj : j < n) (d : Bool) : (lst n m).getD j d = m.testBit j := by
  simp [lst, Array.getD, hj]
theorem ready_pre {ops : Array Oper} {m i : Nat} (hi : i ∈ Region.ready .any ops (lst n m)) (js : List Nat) (hp : preB ops n i js = true) : ∀ j, j ∈ js → m.testBit j = true := by
  intro j hj
  obtain ⟨hun, o, ho, hall⟩ := mem_ready.1 hi
  unfold preB at hp
  rw [List.all_eq_true] at hp
  have h1 := hp j hj
  rw [Bool.and_eq_true, ho] at h1
  obtain ⟨h1, h2⟩ := h1
  simp only at h2
  rw [Array.any_eq_true] at h2
  obtain ⟨k, hk, h2⟩ := h2
  rw [Bool.and_eq_true] at h2
  have h3 := hall _ (Array.getElem_mem hk) h2.1
  have e := Nat.eq_of_beq_eq_true h2.2
  rw [e, lst_getD (Nat.blt_eq.mp h1)] at h3
  exact h3
theorem ready_un {ops : Array Oper} {m i : Nat} (hi : i ∈ Region.ready .any ops (lst n m)) (hn : i < n) : m.testBit i = false := by
  obtain ⟨hun, _⟩ := mem_ready.1 hi
  have : (lst n m).getD i true = false := by simpa using hun
  rwa [lst_getD hn] at this
theorem ready_lt {ops : Array Oper} {m i : Nat} (hi : i ∈ Region.ready .any ops (lst n m)) : i < ops.size := by
  obtain ⟨_, o, ho, _⟩ := mem_ready.1 hi
  exact (Array.getElem?_eq_some_iff.1 ho).1
theorem tb_mono {m i j : Nat} (h : m.testBit j = true) : (m ||| 2 ^ i).testBit j = true := by
  rw [Nat.testBit_or, h]; rfl
theorem FrSub.push {d : Nat} {v : Value} : ∀ {f fr : Fr}, FrSub f fr → get? f d = none → FrSub f ((d, v) :: fr)
  | [], _, _, _ => trivial
  | (s, u) :: f, fr, ⟨h1, h2⟩, hn => by
    rw [get?_cons] at hn
    have hsd : ¬ s = d := fun e => by rw [if_pos e] at hn; cases hn
    rw [if_neg hsd] at hn
    exact ⟨by rw [get?_cons, if_neg (Ne.symm hsd)]; exact h1, FrSub.push h2 hn⟩
end
end Go.Mesh
/-
  WHAT HOLDS IN REGION 13 OF refmeshref55.Agrees, whatever its order is.
-/
set_option linter.all false
namespace Go.Proofs.YtfhoecgiahpddaaGreat
open Go.Mesh Go.RowKit
set_option maxRecDepth 100000
set_option linter.unusedVariables false
set_option maxHeartbeats 4000000
attribute [local irreducible] WP OPS ANY ANYo LG LV FSpec PSpec QOP OPc OPw thenQ blockQ roundQ roundF retQ retM Rd At SLB OS cmpI orI cmpID namedB valB nodeB kindB validG valAux idxI findG zeroV viewOf vwAt idxOf recv flyB scionOf moveOf numberedOf idOf valueOf mget mput localB carriedB msgB sizesB smallV fewB stubOf followF followOf flOf flightsOf flPre plainV plainN plainTo disagree
def slot13 : Nat → Nat
  | 2 => 79 | 3 => 80 | 4 => 81 | 7 => 84 | 8 => 85 | 9 => 86 | _ => 0
def F13 (A B : Nd) (j : Nat) (h : Frag) (fr : Fr) : Prop := match j with
  | 2 => ∃ p c, get? fr 79 = some (.agg [.int .i64 A.id.1, .int .i64 A.id.2, .int .i64 A.kind, .int .i64 A.cls, .slice p A.fields.length c].toArray) ∧ SL h 4 ValC (.slice p A.fields.length c) A.fields
  | 3 => ∃ p c, get? fr 80 = some (.slice p 1 c) ∧ GraphC 4398046511104 h [A] [.slice p 1 c]
  | 4 => ∃ p c, get? fr 81 = some (.agg [.slice p 1 c].toArray) ∧ GraphC 4398046511104 h [A] [.slice p 1 c]
  | 7 => ∃ p c, get? fr 84 = some (.agg [.int .i64 B.id.1, .int .i64 B.id.2, .int .i64 B.kind, .int .i64 B.cls, .slice p B.fields.length c].toArray) ∧ SL h 4 ValC (.slice p B.fields.length c) B.fields
  | 8 => ∃ p c, get? fr 85 = some (.slice p 1 c) ∧ GraphC 4398046511104 h [B] [.slice p 1 c]
  | 9 => ∃ p c, get? fr 86 = some (.agg [.slice p 1 c].toArray) ∧ GraphC 4398046511104 h [B] [.slice p 1 c]
  | _ => True
theorem get?_push {fr : Fr} {d s : Nat} {v : Value} (h : s ≠ d) : get? ((d, v) :: fr) s = get? fr s := by rw [get?_cons, if_neg (Ne.symm h)]
theorem F13_push {A B : Nd} {j d : Nat} {v : Value} {h h' : Frag} {fr : Fr} (x : F13 A B j h fr) (hl : le h h') (hd : slot13 j ≠ d) : F13 A B j h' ((d, v) :: fr) := by
  match j, x, hd with
  | 2, ⟨p, c, e, s⟩, hd => exact ⟨p, c, (get?_push hd).trans e, s.up hl⟩
  | 3, ⟨p, c, e, s⟩, hd => exact ⟨p, c, (get?_push hd).trans e, s.up hl⟩
  | 4, ⟨p, c, e, s⟩, hd => exact ⟨p, c, (get?_push hd).trans e, s.up hl⟩
  | 7, ⟨p, c, e, s⟩, hd => exact ⟨p, c, (get?_push hd).trans e, s.up hl⟩
  | 8, ⟨p, c, e, s⟩, hd => exact ⟨p, c, (get?_push hd).trans e, s.up hl⟩
  | 9, ⟨p, c, e, s⟩, hd => exact ⟨p, c, (get?_push hd).trans e, s.up hl⟩
  | 0, _, _ | 1, _, _ | 5, _, _ | 6, _, _ | n + 10, _, _ => trivial
def X13 (A : Nd) (s na ns m : Nat) (h : Frag) (fr : Fr) (c : Hp) : Prop := (m.testBit na = false ∧ m.testBit ns = false ∧ c = []) ∨ (m.testBit na = true ∧ ∃ b u, get? fr s = some (ptr b 0) ∧ c = [(b, cells [u] 27)] ∧ (m.testBit ns = true → GraphC 4398046511104 h [A] [u]))
theorem tb_ne {m i j : Nat} (h : i ≠ j) : (m ||| 2 ^ i).testBit j = m.testBit j := by
  rw [Nat.testBit_or, Nat.testBit_two_pow, decide_eq_false h, Bool.or_false]
theorem tb_eq {m i : Nat} : (m ||| 2 ^ i).testBit i = true := by
  rw [Nat.testBit_or, Nat.testBit_two_pow, decide_eq_true rfl, Bool.or_true]
theorem X13_push {A : Nd} {s na ns m i d : Nat} {v : Value} {h h' : Frag} {fr : Fr} {c : Hp} (x : X13 A s na ns m h fr c) (hl : le h h') (h1 : i ≠ na) (h2 : i ≠ ns) (hd : s ≠ d) : X13 A s na ns (m ||| 2 ^ i) h' ((d, v) :: fr) c := by
  unfold X13 at x ⊢
  rw [tb_ne h1, tb_ne h2]
  rcases x with x | ⟨e, b, u, e1, e2, e3⟩
  · exact .inl x
  · exact .inr ⟨e, b, u, by rw [get?_push hd]; exact e1, e2, fun z => (e3 z).up hl⟩
theorem X13_other {A : Nd} {s na ns m i : Nat} {h h' : Frag} {fr : Fr} {c : Hp} (x : X13 A s na ns m h fr c) (hl : le h h') (h1 : i ≠ na) (h2 : i ≠ ns) : X13 A s na ns (m ||| 2 ^ i) h' fr c := by
  unfold X13 at x ⊢
  rw [tb_ne h1, tb_ne h2]
  rcases x with x | ⟨e, b, u, e1, e2, e3⟩
  · exact .inl x
  · exact .inr ⟨e, b, u, e1, e2, fun z => (e3 z).up hl⟩
def I13 (h0 : Frag) (fk : Fr) (A B : Nd) (m : Nat) (h : Frag) (L : Hp) (fr : Fr) : Prop :=
  le h0 h ∧ FrSub fk fr ∧ (∀ j, j ∈ [0, 1, 5, 6] → m.testBit j = true) ∧ (∀ j, m.testBit j = true → F13 A B j h fr) ∧ ∃ c1 c2 : Hp, L.Perm (c1 ++ c2) ∧ X13 A 16 10 12 m h fr c1 ∧ X13 B 17 11 13 m h fr c2
theorem I13_push {h0 h h' : Frag} {fk fr : Fr} {A B : Nd} {m i d : Nat} {L : Hp} {v : Value} (x : I13 h0 fk A B m h L fr) (hl : le h h') (hfk : get? fk d = none) (h1 : i < 10) (hd1 : 16 ≠ d) (hd2 : 17 ≠ d) (hs : ∀ j, j ≠ i → slot13 j ≠ d) (hn : F13 A B i h' ((d, v) :: fr)) : I13 h0 fk A B (m ||| 2 ^ i) h' L ((d, v) :: fr) := by
  obtain ⟨a1, a2, a3, a4, c1, c2, a5, a6, a7⟩ := x
  refine ⟨le_trans a1 hl, a2.push hfk, fun j hj => tb_mono (a3 j hj), fun j hj => ?_, c1, c2, a5, X13_push a6 hl (by omega) (by omega) hd1, X13_push a7 hl (by omega) (by omega) hd2⟩
  by_cases e : j = i
  · subst e; exact hn
  · rcases tb_set hj with e' | e'
    · exact absurd e' e
    · exact F13_push (a4 j e') hl (hs j e)
theorem slot13_ne {i : Nat} (hi : i = 2 ∨ i = 3 ∨ i = 4 ∨ i = 7 ∨ i = 8 ∨ i = 9) : ∀ j, j ≠ i → slot13 j ≠ slot13 i := by
  intro j hj e
  match j, hj, e with
  | 2, hj, e | 3, hj, e | 4, hj, e | 7, hj, e | 8, hj, e | 9, hj, e => rcases hi with rfl | rfl | rfl | rfl | rfl | rfl <;> first | exact hj rfl | (simp [slot13] at e)
  | 0, hj, e | 1, hj, e | 5, hj, e | 6, hj, e | n + 10, hj, e => rcases hi with rfl | rfl | rfl | rfl | rfl | rfl <;> simp [slot13] at e
theorem slot13_16 (j : Nat) : slot13 j ≠ 16 := by unfold slot13; split <;> omega
theorem slot13_17 (j : Nat) : slot13 j ≠ 17 := by unfold slot13; split <;> omega
theorem I13_alloc1 {h0 h : Frag} {fk fr : Fr} {A B : Nd} {m b : Nat} {L : Hp} {z : Value} (x : I13 h0 fk A B m h L fr) (hu : m.testBit 10 = false) (hfk : get? fk 16 = none) : I13 h0 fk A B (m ||| 2 ^ 10) h ([(b, cells [z] 27)] ++ L) ((16, ptr b 0) :: fr) := by
  obtain ⟨a1, a2, a3, a4, c1, c2, a5, a6, a7⟩ := x
  refine ⟨a1, a2.push hfk, fun j hj => tb_mono (a3 j hj), fun j hj => ?_, [(b, cells [z] 27)], c2, ?_, .inr ⟨tb_eq, b, z, by rw [get?_cons, if_pos rfl], rfl, fun e => ?_⟩, X13_push a7 (le_refl _) (by omega) (by omega) (by omega)⟩
  · rcases tb_set hj with e' | e'
    · subst e'; trivial
    · exact F13_push (a4 j e') (le_refl _) (slot13_16 j)
  · rcases a6 with ⟨_, _, rfl⟩ | ⟨e, _⟩
    · exact a5.append_left _
    · rw [hu] at e; cases e
  · rcases a6 with ⟨_, hs, _⟩ | ⟨e', _⟩
    · rw [tb_ne (by omega), hs] at e; cases e
    · rw [hu] at e'; cases e'
theorem I13_alloc2 {h0 h : Frag} {fk fr : Fr} {A B : Nd} {m b : Nat} {L : Hp} {z : Value} (x : I13 h0 fk A B m h L fr) (hu : m.testBit 11 = false) (hfk : get? fk 17 = none) : I13 h0 fk A B (m ||| 2 ^ 11) h ([(b, cells [z] 27)] ++ L) ((17, ptr b 0) :: fr) := by
  obtain ⟨a1, a2, a3, a4, c1, c2, a5, a6, a7⟩ := x
  refine ⟨a1, a2.push hfk, fun j hj => tb_mono (a3 j hj), fun j hj => ?_, c1, [(b, cells [z] 27)], ?_, X13_push a6 (le_refl _) (by omega) (by omega) (by omega), .inr ⟨tb_eq, b, z, by rw [get?_cons, if_pos rfl], rfl, fun e => ?_⟩⟩
  · rcases tb_set hj with e' | e'
    · subst e'; trivial
    · exact F13_push (a4 j e') (le_refl _) (slot13_17 j)
  · rcases a7 with ⟨_, _, rfl⟩ | ⟨e, _⟩
    · rw [List.append_nil] at a5
      exact (a5.append_left _).trans List.perm_append_comm
    · rw [hu] at e; cases e
  · rcases a7 with ⟨_, hs, _⟩ | ⟨e', _⟩
    · rw [tb_ne (by omega), hs] at e; cases e
    · rw [hu] at e'; cases e'
theorem I13_store1 {h0 h : Frag} {fk fr : Fr} {A B : Nd} {m : Nat} {L : Hp} (x : I13 h0 fk A B m h L fr) (e10 : m.testBit 10 = true) : ∃ b u c2, get? fr 16 = some (ptr b 0) ∧ L.Perm ((b, cells [u] 27) :: c2) ∧ ∀ w, GraphC 4398046511104 h [A] [w] → I13 h0 fk A B (m ||| 2 ^ 12) h ((b, cells [w] 27) :: c2) fr := by
  obtain ⟨a1, a2, a3, a4, c1, c2, a5, a6, a7⟩ := x
  rcases a6 with ⟨e, _⟩ | ⟨_, b, u, e1, rfl, _⟩
  · rw [e10] at e; cases e
  refine ⟨b, u, c2, e1, a5, fun w hw => ⟨a1, a2, fun j hj => tb_mono (a3 j hj), fun j hj => ?_, [(b, cells [w] 27)], c2, .refl _, .inr ⟨tb_mono e10, b, w, e1, rfl, fun _ => hw⟩, X13_other a7 (le_refl _) (by omega) (by omega)⟩⟩
  rcases tb_set hj with e' | e'
  · subst e'; trivial
  · exact a4 j e'
theorem I13_store2 {h0 h : Frag} {fk fr : Fr} {A B : Nd} {m : Nat} {L : Hp} (x : I13 h0 fk A B m h L fr) (e10 : m.testBit 11 = true) : ∃ b u c2, get? fr 17 = some (ptr b 0) ∧ L.Perm ((b, cells [u] 27) :: c2) ∧ ∀ w, GraphC 4398046511104 h [B] [w] → I13 h0 fk A B (m ||| 2 ^ 13) h ((b, cells [w] 27) :: c2) fr := by
  obtain ⟨a1, a2, a3, a4, c1, c2, a5, a6, a7⟩ := x
  rcases a7 with ⟨e, _⟩ | ⟨_, b, u, e1, rfl, _⟩
  · rw [e10] at e; cases e
  refine ⟨b, u, c1, e1, a5.trans List.perm_append_comm, fun w hw => ⟨a1, a2, fun j hj => tb_mono (a3 j hj), fun j hj => ?_, c1, [(b, cells [w] 27)], List.perm_append_comm (l₁ := [_]), X13_other a6 (le_refl _) (by omega) (by omega), .inr ⟨tb_mono e10, b, w, e1, rfl, fun _ => hw⟩⟩⟩
  rcases tb_set hj with e' | e'
  · subst e'; trivial
  · exact a4 j e'
end Go.Proofs.YtfhoecgiahpddaaGreat
/-
  CONTRACTS: the reference's Agrees (refmeshref55.Agrees).
-/
set_option linter.all false
namespace Go.Proofs.YtfhoecgiahpddaaGreat
open Go.Mesh Go.RowKit
set_option maxRecDepth 100000
set_option linter.unusedVariables false
set_option maxHeartbeats 4000000
attribute [local irreducible] WP OPS ANY ANYo LG LV FSpec PSpec QOP OPc OPw thenQ blockQ roundQ roundF retQ retM Rd At SLB OS cmpI orI cmpID namedB valB nodeB kindB validG valAux idxI findG zeroV viewOf vwAt idxOf recv flyB scionOf moveOf numberedOf idOf valueOf mget mput localB carriedB msgB sizesB smallV fewB stubOf followF followOf flOf flightsOf flPre setL minusL compactL putI mergeN insN insAll unionR NMap Coll retN bodyS GMap Dfs refsV refsOf reachL movedOf movedG graphParts graphR isMove flightIDs mailIDs viewIDs rawRoots rootsR refFl refMoved refPut keepL Bfs reachR deadN viewObjs garbageOf garbageR objsL refView1 refRaw plainV plainN plainTo disagree agreesB
theorem agrees_start {vs : List View} {g : List Nd} {ids : List ID} (he : (graphR vs).2 = 0) : agreesB vs g ids = (decide ((reachR vs).drop 0 = (setL ids).drop 0) && !((reachR vs).drop 0).any (disagree (graphR vs).1 g (reachR vs))) := by
  rw [agreesB, decide_eq_true he]; rfl
theorem agrees_round {xs ys : List ID} {k : Nat} {x y : ID} {p : ID → Bool} (hx : xs[k]? = some x) (hy : ys[k]? = some y) : (decide (xs.drop k = ys.drop k) && !(xs.drop k).any p) = (decide (x = y) && (!p x && (decide (xs.drop (k + 1) = ys.drop (k + 1)) && !(xs.drop (k + 1)).any p))) := by
  rw [drop_get hx, drop_get hy, List.any_cons]
  by_cases h : x = y
  · subst h
    cases p x <;> simp
  · simp [h]
theorem agreesB_len {vs : List View} {g : List Nd} {ids : List ID} (h : ¬ (reachR vs).length = (setL ids).length) : agreesB vs g ids = false := agreesB_ne fun e => h (congrArg List.length e)
theorem refAgrees_s {h : Frag} {a b : Value} {vs : List View} {us : List Value} {g : List Nd} {ids : List ID} (hs : SL h 13 (ViewC 4398046511104) a vs) (sm : Small vs) (hg : GraphC 4398046511104 h g us) (hi : SL h 2 IDC b ids) (hib : ids.length ≤ 1000000) : PSpec Tryz.prog 30 #[a, .agg us.toArray, b] h (fun _ v => v = .bool (agreesB vs g ids)) := by
  obtain ⟨pv, cv, rfl⟩ := hs.slice
  obtain ⟨pg, cg, rfl, hf⟩ := hg
  obtain ⟨pi, ci, rfl⟩ := hi.slice
  have hrr := sm.reach
  have hsl := setL_length ids
  refine pspec_of (vs := [.slice pv vs.length cv, .agg [Value.slice pg g.length cg].toArray, .slice pi ids.length ci]) Tryz.func30 Tryz.ntmps30 rfl rfl ?_
  by_cases he : (graphR vs).2 = 0
  · by_cases hle : (reachR vs).length = (setL ids).length
    · (focus (refine Wr ?_; refine Tbx ?_; intro b0_1; refine Tm ?_; refine On ?_; refine Wr ?_; refine Tm ?_; refine S_c rfl rfl rfl (C_call (refGraph_s ‹_› ‹_›) rfl rfl ⟨_, _, rfl, rfl, rfl⟩ (cal rfl) ?_); rintro h0_2 _ l0_2 ⟨_, rfl, pg0_2, qg0_2, rfl, fg0_2⟩; replace hs := hs.up l0_2; replace hf := hf.up l0_2; replace hi := hi.up l0_2; refine Tm ?_; refine Tx ?_; refine Tx ?_; refine Tal ?_; intro b0_3; refine Tw u0 ?_; refine Tm ?_; refine On ?_; refine Wr ?_; refine Tm ?_; refine S_c rfl rfl rfl (C_call (refReachable_s ‹_› ‹_›) rfl rfl ⟨_, _, rfl, rfl, rfl⟩ (cal rfl) ?_); rintro h0_4 _ l0_4 ⟨p0_4, q0_4, rfl, f0_4⟩; replace fg0_2 := fg0_2.up l0_4; replace hs := hs.up l0_4; replace hf := hf.up l0_4; replace hi := hi.up l0_4; refine Tm ?_; refine On ?_; refine Wr ?_; refine Tm ?_; refine S_c rfl rfl rfl (C_call (refSet_s ‹_› (by omega)) rfl rfl ⟨_, _, rfl, rfl, rfl⟩ (cal rfl) ?_); rintro h0_5 _ l0_5 ⟨p0_5, q0_5, rfl, f0_5, g0_5⟩; replace f0_4 := f0_4.up l0_5; replace fg0_2 := fg0_2.up l0_5; replace hs := hs.up l0_5; replace hf := hf.up l0_5; replace hi := hi.up l0_5; refine Tm ?_; refine On ?_; refine WP_seq ?_; refine Wr ?_; refine Tm ?_; refine Tc ?_; refine Tm ?_; refine Ugs ?_ ?_ <;> intro c0_6 <;> (first | simp [*] at c0_6; done | try simp at c0_6); refine Ugm ?_; refine S_gq rfl rfl rfl rfl rfl rfl (Q_len rfl rfl rfl rfl rfl rfl) ?_; refine Ugm ?_; refine S_gq rfl rfl rfl rfl rfl rfl (Q_len rfl rfl rfl rfl rfl rfl) ?_; refine Ugc ?_; refine Tp0 ?_; refine On ?_; refine Wc ?_ ?_ <;> intro c0_7 <;> (first | simp [*] at c0_7; done | try simp at c0_7); refine WP_skip ?_; refine then_n ?_; refine WP_seq ?_; refine Wr ?_; refine Tm ?_; refine On ?_; refine WP_block ?_))
      (focus (refine WP_keepM [] [_] _ rfl ?_; rintro h1_k l1_k k1_k; have a1_k := at_of_keep k1_k; clear k1_k; replace f0_5 := f0_5.up l1_k; replace f0_4 := f0_4.up l1_k; replace fg0_2 := fg0_2.up l1_k; replace hs := hs.up l1_k; replace hf := hf.up l1_k; replace hi := hi.up l1_k))
      (focus (refine WP_keepM [] [_] _ rfl ?_; rintro h2_k l2_k k2_k; have a2_k := at_of_keep k2_k; clear k2_k; replace a1_k := a1_k.up l2_k; replace f0_5 := f0_5.up l2_k; replace f0_4 := f0_4.up l2_k; replace fg0_2 := fg0_2.up l2_k; replace hs := hs.up l2_k; replace hf := hf.up l2_k; replace hi := hi.up l2_k))
      have hst := agrees_start (g := g) (ids := ids) he
      (refine WP_loopC (α := Nat) [10, 9, 7, 4] (fun (k : Nat) => (reachR vs).length - k) (fun (k : Nat) => [(11, .int .i64 (k : Int))]) (fun hh (k : Nat) => le h2_k hh ∧ k ≤ (reachR vs).length ∧ (decide ((reachR vs).drop k = (setL ids).drop k) && !((reachR vs).drop k).any (disagree (graphR vs).1 g (reachR vs))) = agreesB vs g ids) 0 ⟨_, _, rfl, ⟨_, _, rfl, ⟨_, _, rfl, ⟨_, _, rfl, rfl, rfl⟩, rfl⟩, rfl⟩, rfl⟩ (by repeat' first | exact trivial | refine ⟨rfl, ?_⟩) ?_ ?_)
      · exact ⟨le_refl _, Nat.zero_le _, hst.symm⟩
      rintro h3 k _ ⟨hl3, hk, ht⟩
      (replace a2_k := a2_k.up hl3; replace a1_k := a1_k.up hl3; replace f0_5 := f0_5.up hl3; replace f0_4 := f0_4.up hl3; replace fg0_2 := fg0_2.up hl3; replace hs := hs.up hl3; replace hf := hf.up hl3; replace hi := hi.up hl3)
      by_cases hlt : k < (reachR vs).length
      · obtain ⟨⟨x1, x2⟩, ex⟩ := get_of hlt
        obtain ⟨⟨y1, y2⟩, ey⟩ := get_of (xs := setL ids) (k := k) (by omega)
        rw [agrees_round ex ey] at ht
        (focus (refine WP_seq ?_; refine Wr ?_; refine Tm ?_; refine Tm ?_; refine Tlen ?_; refine Tc ?_; refine On ?_; refine Wc ?_ ?_ <;> intro c5_1 <;> (first | simp [*] at c5_1; done | try simp at c5_1); (focus (refine WP_skip ?_; refine then_n ?_; refine WP_seq ?_; refine WP_block ?_)); rotate_left 1; (focus (exfalso; omega))))
        refine WP_cutS (α := Nat × Option Addr × Nat) (fun hh s => hh = h3 ∧ SL h3 4 ValC (.slice s.2.1 ((findG (graphR vs).1 (x1, x2)).getD zeroN).fields.length s.2.2) ((findG (graphR vs).1 (x1, x2)).getD zeroN).fields) (fun s => [(s.1, cells [.int .i64 ((findG (graphR vs).1 (x1, x2)).getD zeroN).id.1, .int .i64 ((findG (graphR vs).1 (x1, x2)).getD zeroN).id.2, .int .i64 ((findG (graphR vs).1 (x1, x2)).getD zeroN).kind, .int .i64 ((findG (graphR vs).1 (x1, x2)).getD zeroN).cls, .slice s.2.1 ((findG (graphR vs).1 (x1, x2)).getD zeroN).fields.length s.2.2] 38)]) (fun s => [(12, ptr s.1 0), (13, .bool (findG (graphR vs).1 (x1, x2)).isSome), (11, .int .i64 (k : Int)), (10, .slice p0_5 (setL ids).length q0_5), (9, .slice p0_4 (reachR vs).length q0_4), (7, ptr b0_3 0), (4, ptr b0_1 0)]) ?_ ?_
        · (focus (refine R_draw (n := 12) mixed rfl ?_; refine Va 0 ?_; refine Vl 1 ?_; refine Lp ?_; refine Va 1 ?_; refine Vm 3 ?_; refine Va 2 ?_; refine Vm 7 ?_; refine Va 3 ?_; refine A_q (m' := 15) rfl rfl rfl (Q_indexS ‹_› ‹_› rfl rfl rfl (elm rfl) rfl) rfl (fbL (by decide +kernel)) ?_; refine Va 4 ?_; refine Vl 31 ?_; refine Le ?_; rintro _ _ _ rfl; refine A_two 5 9 (mi := 63) (mj := 543) rfl rfl (by decide +kernel) rfl rfl ?_ ?_; (focus (refine T_at rfl ?_; refine T_cO rfl rfl rfl (C_call0 (refFind_s ⟨_, _, rfl, by assumption⟩) rfl rfl ⟨_, _, rfl, ⟨_, _, rfl, rfl, rfl⟩, rfl⟩ (cal rfl) ?_); rintro _ ⟨cv6_2, rfl, cl6_2, co6_2, ⟨pn6_2, qn6_2, rfl, fn6_2⟩⟩; refine Va 6 ?_; refine Vm 127 ?_; refine Va 7 ?_; refine A_q (m' := 255) rfl rfl rfl (Q_extract rfl rfl rfl) rfl (fbL (by decide +kernel)) ?_; refine Va 8 ?_; refine A_qp (m' := 511) rfl rfl rfl (Q_extract rfl rfl rfl) rfl (fpL (by decide +kernel)) ?_; refine Va 9 ?_; refine A_c (m' := 1023) rfl rfl rfl rfl (by decide +kernel) (C_alloc rfl (zer rfl) ?_); intro b6_3; refine Va 10 ?_; refine A_w0 (m' := 2047) rfl rfl rfl rfl (by decide +kernel) (W_all rfl rfl rfl (ty rfl) u0 (by first | rfl | assumption) (by first | rfl | assumption) (by first | rfl | assumption | exact ones_sub ‹_› _ _) ?_); refine Va 11 ?_; refine Vs 4095 ?_; refine A_done (by decide +kernel) ?_)); rotate_left 1; (focus (refine T_at rfl ?_; refine T_cO rfl rfl rfl (C_alloc rfl (zer rfl) ?_); intro b6_4; refine Va 5 ?_; refine A_c (m' := 575) rfl rfl rfl rfl (by decide +kernel) (C_call0 (refFind_s ⟨_, _, rfl, by assumption⟩) rfl rfl ⟨_, _, rfl, ⟨_, _, rfl, rfl, rfl⟩, rfl⟩ (cal rfl) ?_); rintro _ ⟨cv6_5, rfl, cl6_5, co6_5, ⟨pn6_5, qn6_5, rfl, fn6_5⟩⟩; refine Va 6 ?_; refine Vm 639 ?_; refine Va 7 ?_; refine A_q (m' := 767) rfl rfl rfl (Q_extract rfl rfl rfl) rfl (fbL (by decide +kernel)) ?_; refine Va 8 ?_; refine A_qp (m' := 1023) rfl rfl rfl (Q_extract rfl rfl rfl) rfl (fpL (by decide +kernel)) ?_; refine Va 10 ?_; refine A_w0 (m' := 2047) rfl rfl rfl rfl (by decide +kernel) (W_all rfl rfl rfl (ty rfl) u0 (by first | rfl | assumption) (by first | rfl | assumption) (by first | rfl | assumption | exact ones_sub ‹_› _ _) ?_); refine Va 11 ?_; refine Vs 4095 ?_; refine A_done (by decide +kernel) ?_)); rotate_left 1))
          · exact ⟨rfl, rfl, (b6_3, pn6_2, qn6_2), ⟨rfl, fn6_2⟩, (by repeat' first | exact sR _ | exact sA _ _ | exact sN _ | apply s2 | apply s1), (by repeat' first | exact trivial | refine ⟨rfl, ?_⟩)⟩
          · exact ⟨rfl, rfl, (b6_4, pn6_5, qn6_5), ⟨rfl, fn6_5⟩, (by repeat' first | exact sR _ | exact sA _ _ | exact sN _ | apply s2 | apply s1), (by repeat' first | exact trivial | refine ⟨rfl, ?_⟩)⟩
        rintro h4 ⟨b1, pn1, qn1⟩ _ ⟨rfl, hN1⟩
        simp only at hN1
        dsimp only
        (focus (refine WP_keepM [] [_] _ rfl ?_; rintro h7_k l7_k k7_k; have a7_k := at_of_keep k7_k; clear k7_k; replace a2_k := a2_k.up l7_k; replace a1_k := a1_k.up l7_k; replace f0_5 := f0_5.up l7_k; replace f0_4 := f0_4.up l7_k; replace fg0_2 := fg0_2.up l7_k; replace hs := hs.up l7_k; replace hf := hf.up l7_k; replace hi := hi.up l7_k; replace hN1 := hN1.up l7_k))
        skip
        refine WP_cutS (α := Nat × Option Addr × Nat) (fun hh s => hh = h7_k ∧ SL h7_k 4 ValC (.slice s.2.1 ((findG g (x1, x2)).getD zeroN).fields.length s.2.2) ((findG g (x1, x2)).getD zeroN).fields) (fun s => [(s.1, cells [.int .i64 ((findG g (x1, x2)).getD zeroN).id.1, .int .i64 ((findG g (x1, x2)).getD zeroN).id.2, .int .i64 ((findG g (x1, x2)).getD zeroN).kind, .int .i64 ((findG g (x1, x2)).getD zeroN).cls, .slice s.2.1 ((findG g (x1, x2)).getD zeroN).fields.length s.2.2] 38)]) (fun s => [(14, ptr s.1 0), (15, .bool (findG g (x1, x2)).isSome), (12, ptr b1 0), (13, .bool (findG (graphR vs).1 (x1, x2)).isSome), (11, .int .i64 (k : Int)), (10, .slice p0_5 (setL ids).length q0_5), (9, .slice p0_4 (reachR vs).length q0_4), (7, ptr b0_3 0), (4, ptr b0_1 0)]) ?_ ?_
        · (focus (refine R_draw (n := 12) mixed rfl ?_; refine Va 0 ?_; refine Vl 1 ?_; refine Lp ?_; refine Va 1 ?_; refine Vm 3 ?_; refine Va 2 ?_; refine Vm 7 ?_; refine Va 3 ?_; refine A_q (m' := 15) rfl rfl rfl (Q_indexS ‹_› ‹_› rfl rfl rfl (elm rfl) rfl) rfl (fbL (by decide +kernel)) ?_; refine Va 4 ?_; refine Vl 31 ?_; refine Le ?_; rintro _ _ _ rfl; refine A_two 5 9 (mi := 63) (mj := 543) rfl rfl (by decide +kernel) rfl rfl ?_ ?_; (focus (refine T_at rfl ?_; refine T_cO rfl rfl rfl (C_call0 (refFind_s ⟨_, _, rfl, by assumption⟩) rfl rfl ⟨_, _, rfl, ⟨_, _, rfl, rfl, rfl⟩, rfl⟩ (cal rfl) ?_); rintro _ ⟨cv9_2, rfl, cl9_2, co9_2, ⟨pn9_2, qn9_2, rfl, fn9_2⟩⟩; refine Va 6 ?_; refine Vm 127 ?_; refine Va 7 ?_; refine A_q (m' := 255) rfl rfl rfl (Q_extract rfl rfl rfl) rfl (fbL (by decide +kernel)) ?_; refine Va 8 ?_; refine A_qp (m' := 511) rfl rfl rfl (Q_extract rfl rfl rfl) rfl (fpL (by decide +kernel)) ?_; refine Va 9 ?_; refine A_c (m' := 1023) rfl rfl rfl rfl (by decide +kernel) (C_alloc rfl (zer rfl) ?_); intro b9_3; refine Va 10 ?_; refine A_w0 (m' := 2047) rfl rfl rfl rfl (by decide +kernel) (W_all rfl rfl rfl (ty rfl) u0 (by first | rfl | assumption) (by first | rfl | assumption) (by first | rfl | assumption | exact ones_sub ‹_› _ _) ?_); refine Va 11 ?_; refine Vs 4095 ?_; refine A_done (by decide +kernel) ?_)); rotate_left 1; (focus (refine T_at rfl ?_; refine T_cO rfl rfl rfl (C_alloc rfl (zer rfl) ?_); intro b9_4; refine Va 5 ?_; refine A_c (m' := 575) rfl rfl rfl rfl (by decide +kernel) (C_call0 (refFind_s ⟨_, _, rfl, by assumption⟩) rfl rfl ⟨_, _, rfl, ⟨_, _, rfl, rfl, rfl⟩, rfl⟩ (cal rfl) ?_); rintro _ ⟨cv9_5, rfl, cl9_5, co9_5, ⟨pn9_5, qn9_5, rfl, fn9_5⟩⟩; refine Va 6 ?_; refine Vm 639 ?_; refine Va 7 ?_; refine A_q (m' := 767) rfl rfl rfl (Q_extract rfl rfl rfl) rfl (fbL (by decide +kernel)) ?_; refine Va 8 ?_; refine A_qp (m' := 1023) rfl rfl rfl (Q_extract rfl rfl rfl) rfl (fpL (by decide +kernel)) ?_; refine Va 10 ?_; refine A_w0 (m' := 2047) rfl rfl rfl rfl (by decide +kernel) (W_all rfl rfl rfl (ty rfl) u0 (by first | rfl | assumption) (by first | rfl | assumption) (by first | rfl | assumption | exact ones_sub ‹_› _ _) ?_); refine Va 11 ?_; refine Vs 4095 ?_; refine A_done (by decide +kernel) ?_)); rotate_left 1))
          · exact ⟨rfl, rfl, (b9_3, pn9_2, qn9_2), ⟨rfl, fn9_2⟩, (by repeat' first | exact sR _ | exact sA _ _ | exact sN _ | apply s2 | apply s1), (by repeat' first | exact trivial | refine ⟨rfl, ?_⟩)⟩
          · exact ⟨rfl, rfl, (b9_4, pn9_5, qn9_5), ⟨rfl, fn9_5⟩, (by repeat' first | exact sR _ | exact sA _ _ | exact sN _ | apply s2 | apply s1), (by repeat' first | exact trivial | refine ⟨rfl, ?_⟩)⟩
        rintro h5 ⟨b2, pn2, qn2⟩ _ ⟨rfl, hN2⟩
        simp only at hN2
        dsimp only
        (focus (refine WP_keepM [] [_] _ rfl ?_; rintro h10_k l10_k k10_k; have a10_k := at_of_keep k10_k; clear k10_k; replace a7_k := a7_k.up l10_k; replace a2_k := a2_k.up l10_k; replace a1_k := a1_k.up l10_k; replace f0_5 := f0_5.up l10_k; replace f0_4 := f0_4.up l10_k; replace fg0_2 := fg0_2.up l10_k; replace hs := hs.up l10_k; replace hf := hf.up l10_k; replace hi := hi.up l10_k; replace hN1 := hN1.up l10_k; replace hN2 := hN2.up l10_k))
        by_cases hxy : (x1, x2) = (y1, y2)
        · cases hxy
          cases e1 : findG (graphR vs).1 (x1, x2) with
          | none =>
            rw [disagree_none1 e1] at ht
            (focus (refine WP_seq ?_; refine WP_seq ?_; refine R_draw (n := 17) mixed rfl ?_; refine Va 0 ?_; refine Vm 1 ?_; refine Va 1 ?_; refine Vm 3 ?_; refine Va 2 ?_; refine A_q (m' := 7) rfl rfl rfl (Q_indexS ‹_› ‹_› rfl rfl rfl (elm rfl) rfl) rfl (fbL (by decide +kernel)) ?_; refine Va 3 ?_; refine Vl 15 ?_; refine Le ?_; rintro _ _ _ rfl; refine Va 4 ?_; refine Vm 31 ?_; refine Va 5 ?_; refine Vm 63 ?_; refine Va 6 ?_; refine A_q (m' := 127) rfl rfl rfl (Q_indexS ‹_› ‹_› rfl rfl rfl (elm rfl) rfl) rfl (fbL (by decide +kernel)) ?_; refine Va 7 ?_; refine Vl 255 ?_; refine Le ?_; rintro _ _ _ rfl; refine Va 8 ?_; refine A_q (m' := 511) rfl rfl rfl (Q_neI eqID rfl rfl rfl rfl rfl) rfl (fbL (by decide +kernel)) ?_; refine Va 9 ?_; refine Vm 1023 ?_; refine Va 10 ?_; refine Vgs ?_ ?_ <;> intro c11_3 <;> (first | simp [*] at c11_3; done | try simp at c11_3); refine Va 10 ?_; refine Vgm 2047 ?_; refine Va 11 ?_; refine A_gq (m' := 4095) rfl rfl rfl rfl rfl rfl (Q_not rfl rfl) rfl (fbL (by decide +kernel)) ?_; refine Va 12 ?_; refine A_q (m' := 8191) rfl rfl rfl (Q_pick_f rfl rfl rfl) rfl (fbL (by decide +kernel)) ?_; refine Va 13 ?_; refine Vm 16383 ?_; refine Va 14 ?_; refine Vgs ?_ ?_ <;> intro c11_4 <;> (first | simp [*] at c11_4; done | try simp at c11_4); refine Va 14 ?_; refine Vn 32767 ?_; refine Va 15 ?_; refine Vn 65535 ?_; refine Va 16 ?_; refine A_q (m' := 131071) rfl rfl rfl (Q_pick_t rfl rfl rfl) rfl (fbL (by decide +kernel)) ?_; refine A_done (by decide +kernel) ?_; refine then_n ?_; refine cond_t rfl ?_; refine Wr ?_; refine Tm ?_; refine On ?_; refine WP_ret ?_; refine then_r ?_; refine block_r ?_; refine then_r ?_; refine roundF_r ?_; refine block_r ?_; refine then_r ?_))
            refine pret (.inl rfl) rfl ⟨_, _, rfl, rfl, rfl⟩ ?_
            simp only [resOf]; rw [← ht]; simp
          | some na =>
            cases e2 : findG g (x1, x2) with
            | none =>
              rw [disagree_none2 e2] at ht
              (focus (refine WP_seq ?_; refine WP_seq ?_; refine R_draw (n := 17) mixed rfl ?_; refine Va 0 ?_; refine Vm 1 ?_; refine Va 1 ?_; refine Vm 3 ?_; refine Va 2 ?_; refine A_q (m' := 7) rfl rfl rfl (Q_indexS ‹_› ‹_› rfl rfl rfl (elm rfl) rfl) rfl (fbL (by decide +kernel)) ?_; refine Va 3 ?_; refine Vl 15 ?_; refine Le ?_; rintro _ _ _ rfl; refine Va 4 ?_; refine Vm 31 ?_; refine Va 5 ?_; refine Vm 63 ?_; refine Va 6 ?_; refine A_q (m' := 127) rfl rfl rfl (Q_indexS ‹_› ‹_› rfl rfl rfl (elm rfl) rfl) rfl (fbL (by decide +kernel)) ?_; refine Va 7 ?_; refine Vl 255 ?_; refine Le ?_; rintro _ _ _ rfl; refine Va 8 ?_; refine A_q (m' := 511) rfl rfl rfl (Q_neI eqID rfl rfl rfl rfl rfl) rfl (fbL (by decide +kernel)) ?_; refine Va 9 ?_; refine Vm 1023 ?_; refine Va 10 ?_; refine Vgs ?_ ?_ <;> intro c12_3 <;> (first | simp [*] at c12_3; done | try simp at c12_3); refine Va 10 ?_; refine Vgm 2047 ?_; refine Va 11 ?_; refine A_gq (m' := 4095) rfl rfl rfl rfl rfl rfl (Q_not rfl rfl) rfl (fbL (by decide +kernel)) ?_; refine Va 12 ?_; refine A_q (m' := 8191) rfl rfl rfl (Q_pick_f rfl rfl rfl) rfl (fbL (by decide +kernel)) ?_; refine Va 13 ?_; refine Vm 16383 ?_; refine Va 14 ?_; refine Vgs ?_ ?_ <;> intro c12_4 <;> (first | simp [*] at c12_4; done | try simp at c12_4); refine Va 14 ?_; refine Vgm 32767 ?_; refine Va 15 ?_; refine A_gq (m' := 65535) rfl rfl rfl rfl rfl rfl (Q_not rfl rfl) rfl (fbL (by decide +kernel)) ?_; refine Va 16 ?_; refine A_q (m' := 131071) rfl rfl rfl (Q_pick_f rfl rfl rfl) rfl (fbL (by decide +kernel)) ?_; refine A_done (by decide +kernel) ?_; refine then_n ?_; refine cond_t rfl ?_; refine Wr ?_; refine Tm ?_; refine On ?_; refine WP_ret ?_; refine then_r ?_; refine block_r ?_; refine then_r ?_; refine roundF_r ?_; refine block_r ?_; refine then_r ?_))
              refine pret (.inl rfl) rfl ⟨_, _, rfl, rfl, rfl⟩ ?_
              simp only [resOf]; rw [← ht]; simp
            | some nb =>
              rw [disagree_some e1 e2] at ht
              rw [e1] at hN1
              rw [e2] at hN2
              (focus (refine WP_seq ?_))
              refine WP_cutS (α := Unit) (fun hh _ => hh = h10_k) (fun _ => []) (fun _ => [(76, .bool false), (12, ptr b1 0), (14, ptr b2 0), (11, .int .i64 (k : Int)), (10, .slice p0_5 (setL ids).length q0_5), (9, .slice p0_4 (reachR vs).length q0_4), (7, ptr b0_3 0), (4, ptr b0_1 0)]) ?_ ?_
              · (focus (refine R_draw (n := 17) mixed rfl ?_; refine Va 0 ?_; refine Vm 1 ?_; refine Va 1 ?_; refine Vm 3 ?_; refine Va 2 ?_; refine A_q (m' := 7) rfl rfl rfl (Q_indexS ‹_› ‹_› rfl rfl rfl (elm rfl) rfl) rfl (fbL (by decide +kernel)) ?_; refine Va 3 ?_; refine Vl 15 ?_; refine Le ?_; rintro _ _ _ rfl; refine Va 4 ?_; refine Vm 31 ?_; refine Va 5 ?_; refine Vm 63 ?_; refine Va 6 ?_; refine A_q (m' := 127) rfl rfl rfl (Q_indexS ‹_› ‹_› rfl rfl rfl (elm rfl) rfl) rfl (fbL (by decide +kernel)) ?_; refine Va 7 ?_; refine Vl 255 ?_; refine Le ?_; rintro _ _ _ rfl; refine Va 8 ?_; refine A_q (m' := 511) rfl rfl rfl (Q_neI eqID rfl rfl rfl rfl rfl) rfl (fbL (by decide +kernel)) ?_; refine Va 9 ?_; refine Vm 1023 ?_; refine Va 10 ?_; refine Vgs ?_ ?_ <;> intro c14_3 <;> (first | simp [*] at c14_3; done | try simp at c14_3); refine Va 10 ?_; refine Vgm 2047 ?_; refine Va 11 ?_; refine A_gq (m' := 4095) rfl rfl rfl rfl rfl rfl (Q_not rfl rfl) rfl (fbL (by decide +kernel)) ?_; refine Va 12 ?_; refine A_q (m' := 8191) rfl rfl rfl (Q_pick_f rfl rfl rfl) rfl (fbL (by decide +kernel)) ?_; refine Va 13 ?_; refine Vm 16383 ?_; refine Va 14 ?_; refine Vgs ?_ ?_ <;> intro c14_4 <;> (first | simp [*] at c14_4; done | try simp at c14_4); refine Va 14 ?_; refine Vgm 32767 ?_; refine Va 15 ?_; refine A_gq (m' := 65535) rfl rfl rfl rfl rfl rfl (Q_not rfl rfl) rfl (fbL (by decide +kernel)) ?_; refine Va 16 ?_; refine A_q (m' := 131071) rfl rfl rfl (Q_pick_f rfl rfl rfl) rfl (fbL (by decide +kernel)) ?_; refine A_done (by decide +kernel) ?_))
                exact ⟨rfl, rfl, (), rfl, (by repeat' first | exact sR _ | exact sA _ _ | exact sN _ | apply s2 | apply s1), (by repeat' first | exact trivial | refine ⟨rfl, ?_⟩)⟩
              rintro h6 _ _ rfl
              (focus (refine cond_f rfl ?_; refine WP_skip ?_; refine then_n ?_))
              simp only [Option.getD_some] at hN1 hN2
              refine WP_cutS (α := Nat × Nat × Value × Value × Hp) (fun hh s => le h6 hh ∧ GraphC 4398046511104 hh [plainN (reachR vs) na] [s.2.2.1] ∧ GraphC 4398046511104 hh [plainN (reachR vs) nb] [s.2.2.2.1] ∧ s.2.2.2.2.Perm [(s.1, cells [s.2.2.1] 27), (s.2.1, cells [s.2.2.2.1] 27)]) (fun s => s.2.2.2.2) (fun s => [(16, ptr s.1 0), (17, ptr s.2.1 0), (12, ptr b1 0), (14, ptr b2 0), (11, .int .i64 (k : Int)), (10, .slice p0_5 (setL ids).length q0_5), (9, .slice p0_4 (reachR vs).length q0_4), (7, ptr b0_3 0), (4, ptr b0_1 0)]) ?_ ?_
              · (focus (refine R_draw (n := 14) mixed rfl ?_; refine Va 0 ?_; refine Vl 1 ?_; refine Lp ?_; refine Va 1 ?_; refine Vm 3 ?_; refine Va 5 ?_; refine Vl 35 ?_; refine Lp ?_; refine Va 6 ?_; refine Vm 99 ?_))
                have hn1 : NodeC 4398046511104 h6 na [.int .i64 ((findG (graphR vs).1 (x1, x2)).getD zeroN).id.1, .int .i64 ((findG (graphR vs).1 (x1, x2)).getD zeroN).id.2, .int .i64 ((findG (graphR vs).1 (x1, x2)).getD zeroN).kind, .int .i64 ((findG (graphR vs).1 (x1, x2)).getD zeroN).cls, .slice pn1 ((findG (graphR vs).1 (x1, x2)).getD zeroN).fields.length qn1] := by
                  rw [e1]; exact ⟨pn1, qn1, rfl, hN1⟩
                have hn2 : NodeC 4398046511104 h6 nb [.int .i64 ((findG g (x1, x2)).getD zeroN).id.1, .int .i64 ((findG g (x1, x2)).getD zeroN).id.2, .int .i64 ((findG g (x1, x2)).getD zeroN).kind, .int .i64 ((findG g (x1, x2)).getD zeroN).cls, .slice pn2 ((findG g (x1, x2)).getD zeroN).fields.length qn2] := by
                  rw [e2]; exact ⟨pn2, qn2, rfl, hN2⟩
                refine ANY_fam (full := 16383) (I13 h6 [(77, .agg [Value.int .i64 ((findG (graphR vs).1 (x1, x2)).getD zeroN).id.1, .int .i64 ((findG (graphR vs).1 (x1, x2)).getD zeroN).id.2, .int .i64 ((findG (graphR vs).1 (x1, x2)).getD zeroN).kind, .int .i64 ((findG (graphR vs).1 (x1, x2)).getD zeroN).cls, .slice pn1 ((findG (graphR vs).1 (x1, x2)).getD zeroN).fields.length qn1].toArray), (78, .slice p0_4 (reachR vs).length q0_4), (82, .agg [Value.int .i64 ((findG g (x1, x2)).getD zeroN).id.1, .int .i64 ((findG g (x1, x2)).getD zeroN).id.2, .int .i64 ((findG g (x1, x2)).getD zeroN).kind, .int .i64 ((findG g (x1, x2)).getD zeroN).cls, .slice pn2 ((findG g (x1, x2)).getD zeroN).fields.length qn2].toArray), (83, .slice p0_4 (reachR vs).length q0_4), (12, ptr b1 0), (14, ptr b2 0), (11, .int .i64 (k : Int)), (10, .slice p0_5 (setL ids).length q0_5), (9, .slice p0_4 (reachR vs).length q0_4), (7, ptr b0_3 0), (4, ptr b0_1 0)] (plainN (reachR vs) na) (plainN (reachR vs) nb)) ?_ ?_ 10 99 _ _ _ (famC_famB 10 [99] (by decide +kernel) 99 (by simp)) ?_
                · intro m hh L fr i hri hI
                  have hlt14 : i < 14 := ready_lt hri
                  obtain ⟨a1, a2, a3, a4, a5⟩ := id hI
                  rcases (by omega : i = 0 ∨ i = 1 ∨ i = 2 ∨ i = 3 ∨ i = 4 ∨ i = 5 ∨ i = 6 ∨ i = 7 ∨ i = 8 ∨ i = 9 ∨ i = 10 ∨ i = 11 ∨ i = 12 ∨ i = 13) with rfl | rfl | rfl | rfl | rfl | rfl | rfl | rfl | rfl | rfl | rfl | rfl | rfl | rfl
                  · have z := ready_un hri (by omega); rw [a3 0 (by simp)] at z; cases z
                  · have z := ready_un hri (by omega); rw [a3 1 (by simp)] at z; cases z
                  · refine T_at rfl (T_cO rfl rfl rfl (C_call (refPlain_s (hn1.up a1) (f0_4.up a1)) rfl rfl ⟨_, _, a2.get rfl, ⟨_, _, a2.get rfl, rfl, rfl⟩, rfl⟩ (cal rfl) ?_))
                    rintro h' v hl' ⟨p, c, rfl, hf'⟩
                    exact I13_push hI hl' rfl (by omega) (by omega) (by omega) (slot13_ne (i := 2) (by simp)) ⟨p, c, rfl, hf'⟩
                  · obtain ⟨p, c, e, s⟩ := a4 2 (ready_pre hri [2] (by decide +kernel) 2 (by simp))
                    refine T_at rfl (T_cO rfl rfl rfl (OPc_frozen (C_buildSlice rfl (elm rfl) (zer rfl) rfl ⟨_, _, _, rfl, e, rfl, rfl, rfl, rfl⟩ rfl rfl ?_)))
                    intro b h'' hl'' hm
                    exact I13_push hI hl'' rfl (by omega) (by omega) (by omega) (slot13_ne (i := 3) (by simp)) ⟨_, _, rfl, _, _, rfl, (OS.one1 hh 38 5 rfl rfl ⟨p, c, rfl, s⟩).sl hl'' (NodeC_mono _) hm (by simp)⟩
                  · obtain ⟨p, c, e, s⟩ := a4 3 (ready_pre hri [3] (by decide +kernel) 3 (by simp))
                    refine T_q rfl rfl rfl rfl (Q_build rfl (by decide +kernel) (zer rfl) ⟨_, _, _, _, _, _, _, e, fld rfl rfl, ty rfl, rfl, rfl, rfl, rfl⟩ rfl) ?_
                    exact I13_push hI (le_refl _) rfl (by omega) (by omega) (by omega) (slot13_ne (i := 4) (by simp)) ⟨p, c, rfl, s⟩
                  · have z := ready_un hri (by omega); rw [a3 5 (by simp)] at z; cases z
                  · have z := ready_un hri (by omega); rw [a3 6 (by simp)] at z; cases z
                  · refine T_at rfl (T_cO rfl rfl rfl (C_call (refPlain_s (hn2.up a1) (f0_4.up a1)) rfl rfl ⟨_, _, a2.get rfl, ⟨_, _, a2.get rfl, rfl, rfl⟩, rfl⟩ (cal rfl) ?_))
                    rintro h' v hl' ⟨p, c, rfl, hf'⟩
                    exact I13_push hI hl' rfl (by omega) (by omega) (by omega) (slot13_ne (i := 7) (by simp)) ⟨p, c, rfl, hf'⟩
                  · obtain ⟨p, c, e, s⟩ := a4 7 (ready_pre hri [7] (by decide +kernel) 7 (by simp))
                    refine T_at rfl (T_cO rfl rfl rfl (OPc_frozen (C_buildSlice rfl (elm rfl) (zer rfl) rfl ⟨_, _, _, rfl, e, rfl, rfl, rfl, rfl⟩ rfl rfl ?_)))
                    intro b h'' hl'' hm
                    exact I13_push hI hl'' rfl (by omega) (by omega) (by omega) (slot13_ne (i := 8) (by simp)) ⟨_, _, rfl, _, _, rfl, (OS.one1 hh 38 5 rfl rfl ⟨p, c, rfl, s⟩).sl hl'' (NodeC_mono _) hm (by simp)⟩
                  · obtain ⟨p, c, e, s⟩ := a4 8 (ready_pre hri [8] (by decide +kernel) 8 (by simp))
                    refine T_q rfl rfl rfl rfl (Q_build rfl (by decide +kernel) (zer rfl) ⟨_, _, _, _, _, _, _, e, fld rfl rfl, ty rfl, rfl, rfl, rfl, rfl⟩ rfl) ?_
                    exact I13_push hI (le_refl _) rfl (by omega) (by omega) (by omega) (slot13_ne (i := 9) (by simp)) ⟨p, c, rfl, s⟩
                  · refine T_at rfl (T_cO rfl rfl rfl (C_alloc rfl (zer rfl) ?_))
                    intro b
                    exact I13_alloc1 hI (ready_un hri (by omega)) rfl
                  · refine T_at rfl (T_cO rfl rfl rfl (C_alloc rfl (zer rfl) ?_))
                    intro b
                    exact I13_alloc2 hI (ready_un hri (by omega)) rfl
                  · have q := ready_pre hri [4, 10] (by decide +kernel)
                    obtain ⟨p, c, e, s⟩ := a4 4 (q 4 (by simp))
                    obtain ⟨b, u, c2, e1', hp, hk⟩ := I13_store1 hI (q 10 (by simp))
                    exact T_w0 rfl rfl rfl rfl (OPw_perm hp (W_all rfl e1' e (ty rfl) (Upd.head _) rfl rfl rfl (hk _ s)))
                  · have q := ready_pre hri [9, 11] (by decide +kernel)
                    obtain ⟨p, c, e, s⟩ := a4 9 (q 9 (by simp))
                    obtain ⟨b, u, c2, e1', hp, hk⟩ := I13_store2 hI (q 11 (by simp))
                    exact T_w0 rfl rfl rfl rfl (OPw_perm hp (W_all rfl e1' e (ty rfl) (Upd.head _) rfl rfl rfl (hk _ s)))
                · rintro hh L fr ⟨a1, a2, a3, a4, c1', c2', a5, a6, a7⟩
                  rcases a6 with ⟨e, _⟩ | ⟨_, b, u, e1', rfl, g1⟩
                  · exact absurd e (by decide)
                  rcases a7 with ⟨e, _⟩ | ⟨_, b', u', e2', rfl, g2⟩
                  · exact absurd e (by decide)
                  exact ⟨rfl, rfl, (b, b', u, u', L), ⟨a1, g1 (by decide), g2 (by decide), a5⟩, List.Sublist.refl _, e1', e2', a2.get rfl, a2.get rfl, a2.get rfl, a2.get rfl, a2.get rfl, a2.get rfl, a2.get rfl, trivial⟩
                · refine ⟨le_refl _, (by repeat' first | exact trivial | refine ⟨rfl, ?_⟩), by decide, fun j hj => ?_, [], [], .refl _, .inl ⟨by decide, by decide, rfl⟩, .inl ⟨by decide, by decide, rfl⟩⟩
                  rcases (by
                    have : j < 7 := Decidable.byContradiction fun hc => by
                      rw [Nat.testBit_lt_two_pow (x := 99) (i := j) (Nat.lt_of_lt_of_le (by decide : 99 < 2 ^ 7) (Nat.pow_le_pow_right (by decide) (by omega)))] at hj
                      cases hj
                    omega : j = 0 ∨ j = 1 ∨ j = 2 ∨ j = 3 ∨ j = 4 ∨ j = 5 ∨ j = 6) with rfl | rfl | rfl | rfl | rfl | rfl | rfl
                  all_goals first | trivial | exact absurd hj (by decide)
              rintro h7 ⟨c1, c2, u1, u2, L7⟩ _ ⟨hl7, hG1, hG2, hL7⟩
              simp only at hG1 hG2 hL7
              dsimp only
              refine WP.perm hL7.symm ?_
              (replace a10_k := a10_k.up hl7; replace a7_k := a7_k.up hl7; replace a2_k := a2_k.up hl7; replace a1_k := a1_k.up hl7; replace f0_5 := f0_5.up hl7; replace f0_4 := f0_4.up hl7; replace fg0_2 := fg0_2.up hl7; replace hs := hs.up hl7; replace hf := hf.up hl7; replace hi := hi.up hl7; replace hN1 := hN1.up hl7; replace hN2 := hN2.up hl7)
              (focus (refine Wr ?_; refine Tl ?_; refine Lg m0 ?_; refine Tl ?_; refine Lg m1 ?_; refine S_c rfl rfl rfl (C_callv (refEqual_s (g := [_]) (k := [_]) ‹_› ‹_›) rfl rfl ⟨_, _, rfl, ⟨_, _, rfl, rfl, rfl⟩, rfl⟩ (cal rfl) ?_); refine S_q rfl rfl rfl (Q_not rfl rfl) ?_; refine On ?_; refine Wc ?_ ?_ <;> intro c18_1 <;> (first | simp [*] at c18_1; done | try simp at c18_1); (focus (refine Wr ?_; refine Tm ?_; refine On ?_; refine WP_ret ?_; refine block_r ?_; refine then_r ?_; refine roundF_r ?_; refine block_r ?_; refine then_r ?_)); rotate_left 1; (focus (refine WP_skip ?_; refine block_n ?_; refine then_n ?_; refine R_region ?_; refine Tm ?_; refine Ta ?_; refine Tm ?_; refine OPS_nil ?_)); rotate_left 1))
              · refine pret (.inl rfl) rfl ⟨_, _, rfl, rfl, rfl⟩ ?_
                simp only [resOf]; rw [← ht]; simp [c18_1]
              · refine roundF_n (k + 1) (by omega) ⟨le_trans hl3 (le_trans l7_k (le_trans l10_k hl7)), by omega, ?_⟩ (by repeat' first | exact sR _ | exact sA _ _ | exact sN _ | apply s2 | apply s1) (by repeat' first | exact trivial | refine ⟨rfl, ?_⟩)
                rw [← ht]; simp [c18_1]
        · (focus (refine WP_seq ?_; refine WP_seq ?_; refine R_draw (n := 17) mixed rfl ?_; refine Va 0 ?_; refine Vm 1 ?_; refine Va 1 ?_; refine Vm 3 ?_; refine Va 2 ?_; refine A_q (m' := 7) rfl rfl rfl (Q_indexS ‹_› ‹_› rfl rfl rfl (elm rfl) rfl) rfl (fbL (by decide +kernel)) ?_; refine Va 3 ?_; refine Vl 15 ?_; refine Le ?_; rintro _ _ _ rfl; refine Va 4 ?_; refine Vm 31 ?_; refine Va 5 ?_; refine Vm 63 ?_; refine Va 6 ?_; refine A_q (m' := 127) rfl rfl rfl (Q_indexS ‹_› ‹_› rfl rfl rfl (elm rfl) rfl) rfl (fbL (by decide +kernel)) ?_; refine Va 7 ?_; refine Vl 255 ?_; refine Le ?_; rintro _ _ _ rfl; refine Va 8 ?_; refine A_q (m' := 511) rfl rfl rfl (Q_neI eqID rfl rfl rfl rfl rfl) rfl (fbL (by decide +kernel)) ?_; refine Va 9 ?_; refine Vm 1023 ?_; refine Va 10 ?_; refine Vgs ?_ ?_ <;> intro c19_3 <;> (first | simp [*] at c19_3; done | try simp at c19_3); refine Va 10 ?_; refine Vn 2047 ?_; refine Va 11 ?_; refine Vn 4095 ?_; refine Va 12 ?_; refine A_q (m' := 8191) rfl rfl rfl (Q_pick_t rfl rfl rfl) rfl (fbL (by decide +kernel)) ?_; refine Va 13 ?_; refine Vm 16383 ?_; refine Va 14 ?_; refine Vn 32767 ?_; refine Va 15 ?_; refine Vn 65535 ?_; refine Va 16 ?_; refine A_q (m' := 131071) rfl rfl rfl (Q_pick_t rfl rfl rfl) rfl (fbL (by decide +kernel)) ?_; refine A_done (by decide +kernel) ?_; refine then_n ?_; refine cond_t rfl ?_; refine Wr ?_; refine Tm ?_; refine On ?_; refine WP_ret ?_; refine then_r ?_; refine block_r ?_; refine then_r ?_; refine roundF_r ?_; refine block_r ?_; refine then_r ?_))
          refine pret (.inl rfl) rfl ⟨_, _, rfl, rfl, rfl⟩ ?_
          rw [decide_eq_false hxy, Bool.false_and] at ht
          simp only [resOf]; rw [← ht]
      have hge : k = (reachR vs).length := by omega
      subst hge
      rw [List.drop_length, List.drop_eq_nil_of_le (by omega)] at ht
      (focus (refine WP_seq ?_; refine Wr ?_; refine Tm ?_; refine Tm ?_; refine Tlen ?_; refine Tc ?_; refine On ?_; refine Wc ?_ ?_ <;> intro c20_1 <;> (first | simp [*] at c20_1; done | try simp at c20_1); refine WP_exit ?_; refine then_e ?_; refine roundF_e ?_; refine block_e ?_; refine then_n ?_; refine Wr ?_; refine Tm ?_; refine On ?_; refine WP_ret ?_))
      refine pret (.inl rfl) rfl ⟨_, _, rfl, rfl, rfl⟩ ?_
      simp only [resOf]; rw [← ht]; rfl
    · (focus (refine Wr ?_; refine Tbx ?_; intro b21_1; refine Tm ?_; refine On ?_; refine Wr ?_; refine Tm ?_; refine S_c rfl rfl rfl (C_call (refGraph_s ‹_› ‹_›) rfl rfl ⟨_, _, rfl, rfl, rfl⟩ (cal rfl) ?_); rintro h21_2 _ l21_2 ⟨_, rfl, pg21_2, qg21_2, rfl, fg21_2⟩; replace hs := hs.up l21_2; replace hf := hf.up l21_2; replace hi := hi.up l21_2; refine Tm ?_; refine Tx ?_; refine Tx ?_; refine Tal ?_; intro b21_3; refine Tw u0 ?_; refine Tm ?_; refine On ?_; refine Wr ?_; refine Tm ?_; refine S_c rfl rfl rfl (C_call (refReachable_s ‹_› ‹_›) rfl rfl ⟨_, _, rfl, rfl, rfl⟩ (cal rfl) ?_); rintro h21_4 _ l21_4 ⟨p21_4, q21_4, rfl, f21_4⟩; replace fg21_2 := fg21_2.up l21_4; replace hs := hs.up l21_4; replace hf := hf.up l21_4; replace hi := hi.up l21_4; refine Tm ?_; refine On ?_; refine Wr ?_; refine Tm ?_; refine S_c rfl rfl rfl (C_call (refSet_s ‹_› (by omega)) rfl rfl ⟨_, _, rfl, rfl, rfl⟩ (cal rfl) ?_); rintro h21_5 _ l21_5 ⟨p21_5, q21_5, rfl, f21_5, g21_5⟩; replace f21_4 := f21_4.up l21_5; replace fg21_2 := fg21_2.up l21_5; replace hs := hs.up l21_5; replace hf := hf.up l21_5; replace hi := hi.up l21_5; refine Tm ?_; refine On ?_; refine WP_seq ?_; refine Wr ?_; refine Tm ?_; refine Tc ?_; refine Tm ?_; refine Ugs ?_ ?_ <;> intro c21_6 <;> (first | simp [*] at c21_6; done | try simp at c21_6); refine Ugm ?_; refine S_gq rfl rfl rfl rfl rfl rfl (Q_len rfl rfl rfl rfl rfl rfl) ?_; refine Ugm ?_; refine S_gq rfl rfl rfl rfl rfl rfl (Q_len rfl rfl rfl rfl rfl rfl) ?_; refine Ugc ?_; refine Tp0 ?_; refine On ?_; refine Wc ?_ ?_ <;> intro c21_7 <;> (first | simp [*] at c21_7; done | try simp at c21_7); (focus (refine Wr ?_; refine Tm ?_; refine On ?_; refine WP_ret ?_; refine then_r ?_)); rotate_left 1; (focus (exfalso; omega))))
      refine pret (.inl rfl) rfl ⟨_, _, rfl, rfl, rfl⟩ ?_
      simp only [resOf]; rw [agreesB_len hle]
  · (focus (refine Wr ?_; refine Tbx ?_; intro b22_1; refine Tm ?_; refine On ?_; refine Wr ?_; refine Tm ?_; refine S_c rfl rfl rfl (C_call (refGraph_s ‹_› ‹_›) rfl rfl ⟨_, _, rfl, rfl, rfl⟩ (cal rfl) ?_); rintro h22_2 _ l22_2 ⟨_, rfl, pg22_2, qg22_2, rfl, fg22_2⟩; replace hs := hs.up l22_2; replace hf := hf.up l22_2; replace hi := hi.up l22_2; refine Tm ?_; refine Tx ?_; refine Tx ?_; refine Tal ?_; intro b22_3; refine Tw u0 ?_; refine Tm ?_; refine On ?_; refine Wr ?_; refine Tm ?_; refine S_c rfl rfl rfl (C_call (refReachable_s ‹_› ‹_›) rfl rfl ⟨_, _, rfl, rfl, rfl⟩ (cal rfl) ?_); rintro h22_4 _ l22_4 ⟨p22_4, q22_4, rfl, f22_4⟩; replace fg22_2 := fg22_2.up l22_4; replace hs := hs.up l22_4; replace hf := hf.up l22_4; replace hi := hi.up l22_4; refine Tm ?_; refine On ?_; refine Wr ?_; refine Tm ?_; refine S_c rfl rfl rfl (C_call (refSet_s ‹_› (by omega)) rfl rfl ⟨_, _, rfl, rfl, rfl⟩ (cal rfl) ?_); rintro h22_5 _ l22_5 ⟨p22_5, q22_5, rfl, f22_5, g22_5⟩; replace f22_4 := f22_4.up l22_5; replace fg22_2 := fg22_2.up l22_5; replace hs := hs.up l22_5; replace hf := hf.up l22_5; replace hi := hi.up l22_5; refine Tm ?_; refine On ?_; refine WP_seq ?_; refine Wr ?_; refine Tm ?_; refine Tc ?_; refine Tm ?_; refine Ugs ?_ ?_ <;> intro c22_6 <;> (first | simp [*] at c22_6; done | try simp at c22_6); refine Tn ?_; refine Tn ?_; refine Tn ?_; refine Tn ?_; refine Tn ?_; refine Tp1 ?_; refine On ?_; refine cond_t rfl ?_; refine Wr ?_; refine Tm ?_; refine On ?_; refine WP_ret ?_; refine then_r ?_))
    refine pret (.inl rfl) rfl ⟨_, _, rfl, rfl, rfl⟩ ?_
    simp only [resOf]; rw [agreesB_err he]
end Go.Proofs.YtfhoecgiahpddaaGreat
/-
  CONTRACTS: the reference's list of machines, the stub that leads on (refmeshref55.in, route).
-/
set_option linter.all false
namespace Go.Proofs.YtfhoecgiahpddaaGreat
open Go.Mesh Go.RowKit
set_option maxRecDepth 100000
set_option linter.unusedVariables false
set_option maxHeartbeats 4000000
attribute [local irreducible] WP OPS ANY ANYo LG LV FSpec PSpec QOP OPc OPw thenQ blockQ roundQ roundF retQ retM Rd At SLB OS cmpI orI cmpID namedB valB nodeB kindB validG valAux idxI findG zeroV viewOf vwAt idxOf recv flyB scionOf moveOf numberedOf idOf valueOf mget mput localB carriedB msgB sizesB smallV fewB stubOf followF followOf flOf flightsOf flPre
theorem refIn_s {h : Frag} {a : Value} {xs : List Int} {x : Int} (hs : SL h 1 IntC a xs) : PSpec Tryz.prog 113 #[a, .int .i64 x] h (fun _ v => v = .bool (decide (x ∈ xs))) := by
  have hl := hs.le
  refine pspec_of (vs := [a, .int .i64 x]) Tryz.func113 Tryz.ntmps113 rfl rfl ?_
  (focus (refine Wr ?_; refine Tm ?_; refine On ?_; refine WP_seq ?_; refine Wr ?_; refine Tm ?_; refine On ?_; refine WP_block ?_))
  (refine WP_loopC (α := Nat) [0, 1] (fun (k : Nat) => xs.length - k) (fun (k : Nat) => [(5, .int .i64 k)]) (fun hh (k : Nat) => hh = h ∧ k ≤ xs.length ∧ (x ∈ xs.drop k ↔ x ∈ xs)) 0 ⟨_, _, rfl, ⟨_, _, rfl, rfl, rfl⟩, rfl⟩ (by repeat' first | exact trivial | refine ⟨rfl, ?_⟩) ?_ ?_)
  · exact ⟨rfl, Nat.zero_le _, by simp⟩
  rintro h1 k _ ⟨rfl, hk, ht⟩
  by_cases hlt : k < xs.length
  · obtain ⟨y, ex⟩ := get_of hlt
    have hod := drop_get ex
    rw [hod] at ht
    (focus (refine WP_seq ?_; refine Wr ?_; refine Tm ?_; refine Tm ?_; refine S_q rfl rfl rfl (Q_lenS rfl rfl rfl rfl rfl rfl ‹_›) ?_; refine Tc ?_; refine On ?_; refine Wc ?_ ?_ <;> intro c2_1 <;> (first | simp [*] at c2_1; done | try simp at c2_1); refine WP_skip ?_; refine then_n ?_; refine WP_seq ?_; refine WP_block ?_; refine Wr ?_; refine Tm ?_; refine Tm ?_; refine Ti ?_; refine Tl ?_; refine L_el1 ‹_› ‹_› (ty rfl) ?_; rintro _ ⟨⟩; refine Tm ?_; refine Tc ?_; refine On ?_; refine Wc ?_ ?_ <;> intro c2_3 <;> (first | simp [*] at c2_3; done | try simp at c2_3); (focus (refine Wr ?_; refine Tm ?_; refine On ?_; refine WP_ret ?_; refine block_r ?_; refine then_r ?_; refine roundF_r ?_; refine block_r ?_; refine then_r ?_)); rotate_left 1; (focus (refine WP_skip ?_; refine block_n ?_; refine then_n ?_; refine R_region ?_; refine Tm ?_; refine Ta ?_; refine Tm ?_; refine OPS_nil ?_)); rotate_left 1))
    · refine pret (.inl rfl) rfl ⟨_, _, rfl, rfl, rfl⟩ ?_
      simp only [resOf, ← ht]; simp_all
    · refine roundF_n (k + 1) (by omega) ⟨rfl, by omega, ?_⟩ (by repeat' first | exact sR _ | exact sA _ _ | exact sN _ | apply s2 | apply s1) (by repeat' first | exact trivial | refine ⟨rfl, ?_⟩)
      rw [← ht]; simp only [List.mem_cons]; constructor
      · exact .inr
      · rintro (rfl | h)
        · simp_all
        · exact h
  · have hge : k = xs.length := by omega
    subst hge
    (focus (refine WP_seq ?_; refine Wr ?_; refine Tm ?_; refine Tm ?_; refine S_q rfl rfl rfl (Q_lenS rfl rfl rfl rfl rfl rfl ‹_›) ?_; refine Tc ?_; refine On ?_; refine Wc ?_ ?_ <;> intro c3_1 <;> (first | simp [*] at c3_1; done | try simp at c3_1); refine WP_exit ?_; refine then_e ?_; refine roundF_e ?_; refine block_e ?_; refine then_n ?_; refine Wr ?_; refine Tm ?_; refine On ?_; refine WP_ret ?_))
    · refine pret (.inl rfl) rfl ⟨_, _, rfl, rfl, rfl⟩ ?_
      simp only [resOf, ← ht]; simp
/-- the stub that leads on, as the reference tells it -/
def routeOf (v : View) (id : ID) : Int × Int := match stubOf v id with | some s => (s.owner, s.number) | none => (0, 0)
theorem stubOf_def (v : View) (id : ID) : stubOf v id = v.stubs.find? fun e => decide (e.id = id) && !e.dead := by rw [stubOf]
theorem routeOf_some {v : View} {id : ID} {s : StubE} (h : stubOf v id = some s) : routeOf v id = (s.owner, s.number) := by rw [routeOf, h]
theorem routeOf_none {v : View} {id : ID} (h : stubOf v id = none) : routeOf v id = (0, 0) := by rw [routeOf, h]
attribute [local irreducible] routeOf
theorem refRoute_s {h : Frag} {us : List Value} {v : View} {id : ID} (hv : ViewC 4398046511104 h v us) : PSpec Tryz.prog 112 #[.agg us.toArray, .agg (idc id).toArray] h
    (fun _ u => u = .tuple #[.int .i64 (routeOf v id).1, .int .u64 (routeOf v id).2, .bool (stubOf v id).isSome]) := by
  obtain ⟨hi, xa, po, qo, qs, qt, pc, qc, pn, qn, pm, qm, xw, xv, pf, qf, pr, qr, xe, xf, rfl, vo, vs, -⟩ := hv
  have hl := vs.le
  obtain ⟨i1, i2⟩ := id
  refine pspec_of (vs := [.agg _, .agg (idc (i1, i2)).toArray]) Tryz.func112 Tryz.ntmps112 rfl rfl ?_
  (focus (refine Wr ?_; refine Tbx ?_; intro b0_1; refine Tbx ?_; intro b0_2; refine Tm ?_; refine Tm ?_; refine Tm ?_; refine On ?_; refine WP_seq ?_; refine Wr ?_; refine Tm ?_; refine On ?_; refine WP_block ?_))
  (focus (refine WP_keepM [] [_] _ rfl ?_; rintro h1_k l1_k k1_k; have a1_k := at_of_keep k1_k; clear k1_k; replace vo := vo.up l1_k; replace vs := vs.up l1_k))
  (focus (refine WP_keepM [] [_] _ rfl ?_; rintro h2_k l2_k k2_k; have a2_k := at_of_keep k2_k; clear k2_k; replace a1_k := a1_k.up l2_k; replace vo := vo.up l2_k; replace vs := vs.up l2_k))
  (refine WP_loopC (α := Nat) [3, 2] (fun (k : Nat) => v.stubs.length - k) (fun (k : Nat) => [(7, .int .i64 (k : Int))]) (fun hh (k : Nat) => hh = h2_k ∧ k ≤ v.stubs.length ∧ (v.stubs.drop k).find? (fun e => decide (e.id = (i1, i2)) && !e.dead) = stubOf v (i1, i2)) 0 ⟨_, _, rfl, ⟨_, _, rfl, rfl, rfl⟩, rfl⟩ (by repeat' first | exact trivial | refine ⟨rfl, ?_⟩) ?_ ?_)
  · exact ⟨rfl, Nat.zero_le _, by rw [stubOf_def]; rfl⟩
  rintro h1 k _ ⟨rfl, hk, ht⟩
  by_cases hlt : k < v.stubs.length
  · obtain ⟨⟨ow, nu, ⟨e1, e2⟩, wk, dd⟩, ee⟩ := get_of hlt
    rw [find_drop ee] at ht
    (focus (refine WP_seq ?_; refine Wr ?_; refine Tm ?_; refine Tf ?_; refine Tl ?_; refine L_fld (Rd.pers ‹_›) (ty rfl) rfl ?_; refine Tlen ?_; refine Tc ?_; refine On ?_; refine Wc ?_ ?_ <;> intro c4_1 <;> (first | simp [*] at c4_1; done | try simp at c4_1); refine WP_skip ?_; refine then_n ?_; refine WP_seq ?_; refine WP_block ?_; refine WP_seq ?_; refine R_draw (n := 17) mixed rfl ?_; refine Va 0 ?_; refine Vf 1 ?_; refine Va 1 ?_; refine Vl 3 ?_; refine L_fld (Rd.pers ‹_›) (ty rfl) rfl ?_; refine Va 2 ?_; refine Vm 7 ?_; refine Va 3 ?_; refine A_q (m' := 15) rfl rfl rfl (Q_indexS ‹_› ‹_› rfl rfl rfl (elm rfl) rfl) rfl (by decide +kernel) ?_; refine Va 4 ?_; refine Vf 31 ?_; refine Va 5 ?_; refine Vl 63 ?_; refine L_elF ‹_› ‹_› ?_; rintro _ _ _ ⟨xa4_2, xb4_2, xc4_2, xd4_2, xe4_2, xf4_2, rfl⟩; refine LV_a (ty rfl) rfl ?_; refine Va 6 ?_; refine Vl 127 ?_; refine Lp ?_; refine Va 7 ?_; refine A_q (m' := 255) rfl rfl rfl (Q_eqI eqID rfl rfl rfl rfl rfl) rfl (by decide +kernel) ?_; refine Va 8 ?_; refine Vm 511 ?_; refine Va 9 ?_; refine Vgs ?_ ?_ <;> intro c4_3 <;> (first | simp [*] at c4_3; done | try simp at c4_3); (focus (refine Va 9 ?_; refine A_gq (m' := 1023) rfl rfl rfl rfl rfl rfl (Q_fieldAddr rfl rfl (fld rfl rfl)) rfl (by decide +kernel) ?_; refine Va 10 ?_; refine Vgl 2047 ?_; refine L_fld (Rd.pers ‹_›) (ty rfl) rfl ?_; refine Va 11 ?_; refine Vgm 4095 ?_; refine Va 12 ?_; refine A_gq (m' := 8191) rfl rfl rfl rfl rfl rfl (Q_indexS ‹_› ‹_› rfl rfl rfl (elm rfl) rfl) rfl (by decide +kernel) ?_; refine Va 13 ?_; refine A_gq (m' := 16383) rfl rfl rfl rfl rfl rfl (Q_fieldAddr rfl rfl (fld rfl rfl)) rfl (by decide +kernel) ?_; refine Va 14 ?_; refine Vgl 32767 ?_; refine L_elF ‹_› ‹_› ?_; rintro _ _ _ ⟨xa4_4, xb4_4, xc4_4, xd4_4, xe4_4, xf4_4, rfl⟩; refine LV_1 (ty rfl) rfl ?_; refine Va 15 ?_; refine A_gq (m' := 65535) rfl rfl rfl rfl rfl rfl (Q_not rfl rfl) rfl (by decide +kernel) ?_; refine Va 16 ?_; refine A_q (m' := 131071) rfl rfl rfl (Q_pick_t rfl rfl rfl) rfl (by decide +kernel) ?_; refine A_done (by decide +kernel) ?_; refine then_n ?_; refine Wc ?_ ?_ <;> intro c4_5 <;> (first | simp [*] at c4_5; done | try simp at c4_5); (focus (refine WP_seq ?_; refine R_draw (n := 15) mixed rfl ?_; refine Va 0 ?_; refine Vf 1 ?_; refine Va 1 ?_; refine Vl 3 ?_; refine L_fld (Rd.pers ‹_›) (ty rfl) rfl ?_; refine Va 2 ?_; refine Vm 7 ?_; refine Va 3 ?_; refine A_q (m' := 15) rfl rfl rfl (Q_indexS ‹_› ‹_› rfl rfl rfl (elm rfl) rfl) rfl (by decide +kernel) ?_; refine Va 4 ?_; refine Vf 31 ?_; refine Va 5 ?_; refine Vl 63 ?_; refine L_elF ‹_› ‹_› ?_; rintro _ _ _ ⟨xa4_6, xb4_6, xc4_6, xd4_6, xe4_6, xf4_6, rfl⟩; refine LV_1 (ty rfl) rfl ?_; refine Va 6 ?_; refine Vf 127 ?_; refine Va 7 ?_; refine Vl 255 ?_; refine L_fld (Rd.pers ‹_›) (ty rfl) rfl ?_; refine Va 8 ?_; refine Vm 511 ?_; refine Va 9 ?_; refine A_q (m' := 1023) rfl rfl rfl (Q_indexS ‹_› ‹_› rfl rfl rfl (elm rfl) rfl) rfl (by decide +kernel) ?_; refine Va 10 ?_; refine Vf 2047 ?_; refine Va 11 ?_; refine Vl 4095 ?_; refine L_elF ‹_› ‹_› ?_; rintro _ _ _ ⟨xa4_7, xb4_7, xc4_7, xd4_7, xe4_7, xf4_7, rfl⟩; refine LV_1 (ty rfl) rfl ?_; refine Va 12 ?_; refine Vs 8191 ?_; refine Va 13 ?_; refine Vs 16383 ?_; refine Va 14 ?_; refine Vs 32767 ?_; refine A_done (by decide +kernel) ?_; refine then_n ?_; refine WP_ret ?_; refine block_r ?_; refine then_r ?_; refine roundF_r ?_; refine block_r ?_; refine then_r ?_)); rotate_left 1; (focus (refine WP_skip ?_; refine block_n ?_; refine then_n ?_; refine R_region ?_; refine Tm ?_; refine Ta ?_; refine Tm ?_; refine OPS_nil ?_)); rotate_left 1)); rotate_left 2; (focus (refine Va 9 ?_; refine Vn 1023 ?_; refine Va 10 ?_; refine Vn 2047 ?_; refine Va 11 ?_; refine Vn 4095 ?_; refine Va 12 ?_; refine Vn 8191 ?_; refine Va 13 ?_; refine Vn 16383 ?_; refine Va 14 ?_; refine Vn 32767 ?_; refine Va 15 ?_; refine Vn 65535 ?_; refine Va 16 ?_; refine A_q (m' := 131071) rfl rfl rfl (Q_pick_f rfl rfl rfl) rfl (by decide +kernel) ?_; refine A_done (by decide +kernel) ?_; refine then_n ?_; refine cond_f rfl ?_; refine WP_skip ?_; refine block_n ?_; refine then_n ?_; refine R_region ?_; refine Tm ?_; refine Ta ?_; refine Tm ?_; refine OPS_nil ?_)); rotate_left 1))
    · have hv := ht.symm
      rw [if_pos (by rw [decide_eq_true (Prod.ext c4_3.1 c4_3.2), c4_5]; rfl)] at hv
      refine pret (.inl rfl) rfl ⟨_, _, rfl, ⟨_, _, rfl, ⟨_, _, rfl, rfl, rfl⟩, rfl⟩, rfl⟩ ?_
      rw [routeOf_some hv, hv]; rfl
    · refine roundF_n (k + 1) (by omega) ⟨rfl, by omega, ?_⟩ (by repeat' first | exact sR _ | exact sA _ _ | exact sN _ | apply s2 | apply s1) (by repeat' first | exact trivial | refine ⟨rfl, ?_⟩)
      rw [← ht, if_neg (by rw [c4_5]; simp)]
    · refine roundF_n (k + 1) (by omega) ⟨rfl, by omega, ?_⟩ (by repeat' first | exact sR _ | exact sA _ _ | exact sN _ | apply s2 | apply s1) (by repeat' first | exact trivial | refine ⟨rfl, ?_⟩)
      rw [← ht, if_neg (by simp only [Bool.and_eq_true, decide_eq_true_eq, Prod.mk.injEq]; exact fun e => c4_3 e.1.1 e.1.2)]
  have hge : k = v.stubs.length := by omega
  subst hge
  rw [List.drop_length] at ht
  have hr := routeOf_none ht.symm
  (focus (refine WP_seq ?_; refine Wr ?_; refine Tm ?_; refine Tf ?_; refine Tl ?_; refine L_fld (Rd.pers ‹_›) (ty rfl) rfl ?_; refine Tlen ?_; refine Tc ?_; refine On ?_; refine Wc ?_ ?_ <;> intro c5_1 <;> (first | simp [*] at c5_1; done | try simp at c5_1); refine WP_exit ?_; refine then_e ?_; refine roundF_e ?_; refine block_e ?_; refine then_n ?_; refine Wr ?_; refine Tm ?_; refine Tm ?_; refine Tm ?_; refine On ?_; refine WP_ret ?_))
  refine pret (.inl rfl) rfl ⟨_, _, rfl, ⟨_, _, rfl, ⟨_, _, rfl, rfl, rfl⟩, rfl⟩, rfl⟩ ?_
  rw [hr, ← ht]; rfl
end Go.Proofs.YtfhoecgiahpddaaGreat
/-
  CONTRACTS: the reference's way to an object (refmeshref55.carried, Follow).
-/
set_option linter.all false
namespace Go.Proofs.YtfhoecgiahpddaaGreat
open Go.Mesh Go.RowKit
set_option maxRecDepth 100000
set_option linter.unusedVariables false
set_option maxHeartbeats 4000000
attribute [local irreducible] WP OPS ANY ANYo LG LV FSpec PSpec QOP OPc OPw thenQ blockQ roundQ roundF retQ retM Rd At SLB OS cmpI orI cmpID namedB valB nodeB kindB validG valAux idxI findG zeroV viewOf vwAt idxOf recv flyB scionOf moveOf numberedOf idOf valueOf mget mput localB carriedB msgB sizesB smallV fewB stubOf followF followOf flOf flightsOf flPre routeOf setL minusL compactL putI mergeN insN insAll unionR NMap Coll retN bodyS GMap Dfs refsV refsOf reachL movedOf movedG graphParts graphR isMove
/-- a flight that carries an object to a machine -/
def goesB (vs : List View) (v : View) (to : Int) (id : ID) (nu : Int) (x : Flight) : Bool := decide (x.to = to) && (decide (x.msg.kind = 1) && (decide (x.msg.parcel.id = id) && (decide (x.msg.parcel.number = nu) && flyB vs v x)))
theorem carriedB_goes (vs : List View) (frm to : Int) (id : ID) (nu : Int) : carriedB vs frm to id nu = (vwAt vs frm).flights.any (goesB vs (vwAt vs frm) to id nu) := by rw [carriedB]; rfl
theorem goesB_false {vs : List View} {v : View} {to i1 i2 nu : Int} {x : Flight} (h : ¬ (x.to = to ∧ x.msg.kind = 1 ∧ (x.msg.parcel.id.1 = i1 ∧ x.msg.parcel.id.2 = i2) ∧ x.msg.parcel.number = nu ∧ flyB vs v x = true)) : goesB vs v to (i1, i2) nu x = false := by
  rw [← Bool.not_eq_true]
  intro e
  simp only [goesB, Bool.and_eq_true, decide_eq_true_eq, Prod.ext_iff] at e
  exact h e
theorem goesB_true {vs : List View} {v : View} {to i1 i2 nu : Int} {x : Flight} (h1 : x.to = to) (h2 : x.msg.kind = 1) (h3 : x.msg.parcel.id.1 = i1 ∧ x.msg.parcel.id.2 = i2) (h4 : x.msg.parcel.number = nu) (h5 : flyB vs v x = true) : goesB vs v to (i1, i2) nu x = true := by
  simp only [goesB, Bool.and_eq_true, decide_eq_true_eq, Prod.ext_iff]
  exact ⟨h1, h2, h3, h4, h5⟩
theorem refCarried_s {h : Frag} {a : Value} {us : List Value} {vs : List View} {v : View} {to nu : Int} {id : ID} (hs : SL h 13 (ViewC 4398046511104) a vs) (hv : ViewC 4398046511104 h v us) : PSpec Tryz.prog 114 #[a, .agg us.toArray, .int .i64 to, .agg (idc id).toArray, .int .u64 nu] h
    (fun _ u => u = .bool (v.flights.any (goesB vs v to id nu))) := by
  obtain ⟨hi, xa, po, qo, qs, qt, pc, qc, pn, qn, pm, qm, xw, xv, pf, qf, pr, qr, xe, xf, rfl, vo, vb, vc, vn, vm, vf, vr⟩ := hv
  obtain ⟨i1, i2⟩ := id
  have hl := vf.le
  refine pspec_of (vs := [a, .agg _, .int .i64 to, .agg (idc (i1, i2)).toArray, .int .u64 nu]) Tryz.func114 Tryz.ntmps114 rfl rfl ?_
  (focus (refine Wr ?_; refine Tbx ?_; intro b0_1; refine Tbx ?_; intro b0_2; refine Tm ?_; refine On ?_; refine WP_seq ?_; refine Wr ?_; refine Tm ?_; refine On ?_; refine WP_block ?_))
  (focus (refine WP_keepM [] [_] _ rfl ?_; rintro h1_k l1_k k1_k; have a1_k := at_of_keep k1_k; clear k1_k; replace hs := hs.up l1_k; replace vo := vo.up l1_k; replace vb := vb.up l1_k; replace vc := vc.up l1_k; replace vn := vn.up l1_k; replace vm := vm.up l1_k; replace vf := vf.up l1_k; replace vr := vr.up l1_k))
  (focus (refine WP_keepM [] [_] _ rfl ?_; rintro h2_k l2_k k2_k; have a2_k := at_of_keep k2_k; clear k2_k; replace a1_k := a1_k.up l2_k; replace hs := hs.up l2_k; replace vo := vo.up l2_k; replace vb := vb.up l2_k; replace vc := vc.up l2_k; replace vn := vn.up l2_k; replace vm := vm.up l2_k; replace vf := vf.up l2_k; replace vr := vr.up l2_k))
  (refine WP_loopC (α := Nat) [8, 6, 0, 2, 4] (fun (k : Nat) => v.flights.length - k) (fun (k : Nat) => [(11, .int .i64 (k : Int))]) (fun hh (k : Nat) => hh = h2_k ∧ k ≤ v.flights.length ∧ (v.flights.drop k).any (goesB vs v to (i1, i2) nu) = v.flights.any (goesB vs v to (i1, i2) nu)) 0 ⟨_, _, rfl, ⟨_, _, rfl, ⟨_, _, rfl, ⟨_, _, rfl, ⟨_, _, rfl, rfl, rfl⟩, rfl⟩, rfl⟩, rfl⟩, rfl⟩ (by repeat' first | exact trivial | refine ⟨rfl, ?_⟩) ?_ ?_)
  · exact ⟨rfl, Nat.zero_le _, by simp⟩
  rintro h1 k _ ⟨rfl, hk, ht⟩
  by_cases hlt : k < v.flights.length
  · obtain ⟨x, ex⟩ := get_of hlt
    rw [drop_get ex, List.any_cons] at ht
    (focus (refine WP_seq ?_; refine Wr ?_; refine Tm ?_; refine Tf ?_; refine Tl ?_; refine L_fld (Rd.pers ‹_›) (ty rfl) rfl ?_; refine Tlen ?_; refine Tc ?_; refine On ?_; refine Wc ?_ ?_ <;> intro c4_1 <;> (first | simp [*] at c4_1; done | try simp at c4_1); refine WP_skip ?_; refine then_n ?_; refine WP_seq ?_; refine WP_block ?_; refine Wr ?_; refine Tf ?_; refine Tl ?_; refine L_fld (Rd.pers ‹_›) (ty rfl) rfl ?_; refine Tm ?_; refine Ti ?_; refine Tl ?_; refine Le ?_; rintro _ _ _ ⟨xa4_2, xb4_2, xc4_2, xd4_2, xe4_2, pa4_2, qa4_2, pf4_2, qf4_2, pm4_2, qm4_2, xw4_2, y14_2, y24_2, y34_2, y44_2, y54_2, y64_2, y74_2, y84_2, y94_2, y104_2, y114_2, y124_2, y134_2, y144_2, y154_2, rfl, ha4_2, hf4_2, hm4_2⟩; refine Tal ?_; intro b4_3; refine Tw u0 ?_; refine On ?_; refine Wr ?_; refine Tf ?_; refine Tl ?_; refine Lo m0 ?_; refine Tm ?_; refine Tc ?_; refine Tm ?_; refine Ugs ?_ ?_ <;> intro c4_4 <;> (first | simp [*] at c4_4; done | try simp at c4_4); (focus (refine Ugf ?_; refine Ugf ?_; refine Ugl ?_; refine L_fld2 (Rd.own m0) ?_; refine LV_1 (ty rfl) rfl ?_; refine Ugc ?_; refine Tp1 ?_; refine Tm ?_; refine Ugs ?_ ?_ <;> intro c4_5 <;> (first | simp [*] at c4_5; done | try simp at c4_5); (focus (refine Ugf ?_; refine Ugf ?_; refine Ugf ?_; refine Ugl ?_; refine L_fld3 (Rd.own m0) ?_; refine LV_a (ty rfl) rfl ?_; refine Ugl ?_; refine Lp ?_; refine S_gq rfl rfl rfl rfl rfl rfl (Q_eqI eqID rfl rfl rfl rfl rfl) ?_; refine Tp1 ?_; refine Tm ?_; refine Ugs ?_ ?_ <;> intro c4_6 <;> (first | simp [*] at c4_6; done | try simp at c4_6); (focus (refine Ugf ?_; refine Ugf ?_; refine Ugf ?_; refine Ugl ?_; refine L_fld3 (Rd.own m0) ?_; refine LV_1 (ty rfl) rfl ?_; refine Ugm ?_; refine Ugc ?_; refine Tp1 ?_; refine Tm ?_; refine Ugs ?_ ?_ <;> intro c4_7 <;> (first | simp [*] at c4_7; done | try simp at c4_7); (focus (refine Ugm ?_; refine Ugl ?_; refine Lp ?_; refine Ugl ?_; refine Lg m0 ?_; refine S_gc rfl rfl rfl rfl rfl rfl (C_callv (refFlying_s ‹_› ⟨by assumption, _, _, _, _, _, _, _, _, _, _, _, _, _, _, _, _, _, _, _, rfl, by assumption, by assumption, by assumption, by assumption, by assumption, by assumption, by assumption⟩ ⟨_, _, _, _, _, _, _, _, _, _, _, _, _, _, _, _, _, _, _, _, _, _, _, _, _, _, _, rfl, by assumption, by assumption, by assumption⟩) rfl rfl ⟨_, _, rfl, ⟨_, _, rfl, ⟨_, _, rfl, rfl, rfl⟩, rfl⟩, rfl⟩ (cal rfl) ?_); refine Tp1 ?_; refine On ?_; refine Wc ?_ ?_ <;> intro c4_8 <;> (first | simp [*] at c4_8; done | try simp at c4_8); (focus (refine Wr ?_; refine Tm ?_; refine On ?_; refine WP_ret ?_; refine block_r ?_; refine then_r ?_; refine roundF_r ?_; refine block_r ?_; refine then_r ?_)); rotate_left 1; (focus (refine WP_skip ?_; refine block_n ?_; refine then_n ?_; refine R_region ?_; refine Tm ?_; refine Ta ?_; refine Tm ?_; refine OPS_nil ?_)); rotate_left 1)); rotate_left 2; (focus (refine Tn ?_; refine Tn ?_; refine Tn ?_; refine Tn ?_; refine Tp0 ?_; refine On ?_; refine cond_f rfl ?_; refine WP_skip ?_; refine block_n ?_; refine then_n ?_; refine R_region ?_; refine Tm ?_; refine Ta ?_; refine Tm ?_; refine OPS_nil ?_)); rotate_left 1)); rotate_left 3; (focus (refine Tn ?_; refine Tn ?_; refine Tn ?_; refine Tn ?_; refine Tn ?_; refine Tn ?_; refine Tp0 ?_; refine Tm ?_; refine Tn ?_; refine Tn ?_; refine Tn ?_; refine Tn ?_; refine Tp0 ?_; refine On ?_; refine cond_f rfl ?_; refine WP_skip ?_; refine block_n ?_; refine then_n ?_; refine R_region ?_; refine Tm ?_; refine Ta ?_; refine Tm ?_; refine OPS_nil ?_)); rotate_left 1)); rotate_left 4; (focus (refine Tn ?_; refine Tn ?_; refine Tn ?_; refine Tn ?_; refine Tn ?_; refine Tn ?_; refine Tp0 ?_; refine Tm ?_; refine Tn ?_; refine Tn ?_; refine Tn ?_; refine Tn ?_; refine Tn ?_; refine Tn ?_; refine Tp0 ?_; refine Tm ?_; refine Tn ?_; refine Tn ?_; refine Tn ?_; refine Tn ?_; refine Tp0 ?_; refine On ?_; refine cond_f rfl ?_; refine WP_skip ?_; refine block_n ?_; refine then_n ?_; refine R_region ?_; refine Tm ?_; refine Ta ?_; refine Tm ?_; refine OPS_nil ?_)); rotate_left 1)); rotate_left 5; (focus (refine Tn ?_; refine Tn ?_; refine Tn ?_; refine Tn ?_; refine Tp0 ?_; refine Tm ?_; refine Tn ?_; refine Tn ?_; refine Tn ?_; refine Tn ?_; refine Tn ?_; refine Tn ?_; refine Tp0 ?_; refine Tm ?_; refine Tn ?_; refine Tn ?_; refine Tn ?_; refine Tn ?_; refine Tn ?_; refine Tn ?_; refine Tp0 ?_; refine Tm ?_; refine Tn ?_; refine Tn ?_; refine Tn ?_; refine Tn ?_; refine Tp0 ?_; refine On ?_; refine cond_f rfl ?_; refine WP_skip ?_; refine block_n ?_; refine then_n ?_; refine R_region ?_; refine Tm ?_; refine Ta ?_; refine Tm ?_; refine OPS_nil ?_)); rotate_left 1))
    · have hp : goesB vs v to (i1, i2) nu x = true := goesB_true c4_4 c4_5 c4_6 c4_7 c4_8
      refine pret (.inl rfl) rfl ⟨_, _, rfl, rfl, rfl⟩ ?_
      simp only [resOf]; rw [← ht, hp]; rfl
    · have hp : goesB vs v to (i1, i2) nu x = false := goesB_false fun e => by have := e.2.2.2.2; rw [c4_8] at this; cases this
      refine roundF_n (k + 1) (by omega) ⟨rfl, by omega, ?_⟩ (by repeat' first | exact sR _ | exact sA _ _ | exact sN _ | apply s2 | apply s1) (by repeat' first | exact trivial | refine ⟨rfl, ?_⟩)
      rw [← ht, hp]; rfl
    · have hp : goesB vs v to (i1, i2) nu x = false := goesB_false fun e => c4_7 e.2.2.2.1
      refine roundF_n (k + 1) (by omega) ⟨rfl, by omega, ?_⟩ (by repeat' first | exact sR _ | exact sA _ _ | exact sN _ | apply s2 | apply s1) (by repeat' first | exact trivial | refine ⟨rfl, ?_⟩)
      rw [← ht, hp]; rfl
    · have hp : goesB vs v to (i1, i2) nu x = false := goesB_false fun e => c4_6 e.2.2.1.1 e.2.2.1.2
      refine roundF_n (k + 1) (by omega) ⟨rfl, by omega, ?_⟩ (by repeat' first | exact sR _ | exact sA _ _ | exact sN _ | apply s2 | apply s1) (by repeat' first | exact trivial | refine ⟨rfl, ?_⟩)
      rw [← ht, hp]; rfl
    · have hp : goesB vs v to (i1, i2) nu x = false := goesB_false fun e => c4_5 e.2.1
      refine roundF_n (k + 1) (by omega) ⟨rfl, by omega, ?_⟩ (by repeat' first | exact sR _ | exact sA _ _ | exact sN _ | apply s2 | apply s1) (by repeat' first | exact trivial | refine ⟨rfl, ?_⟩)
      rw [← ht, hp]; rfl
    · have hp : goesB vs v to (i1, i2) nu x = false := goesB_false fun e => c4_4 e.1
      refine roundF_n (k + 1) (by omega) ⟨rfl, by omega, ?_⟩ (by repeat' first | exact sR _ | exact sA _ _ | exact sN _ | apply s2 | apply s1) (by repeat' first | exact trivial | refine ⟨rfl, ?_⟩)
      rw [← ht, hp]; rfl
  have hge : k = v.flights.length := by omega
  subst hge
  rw [List.drop_length] at ht
  (focus (refine WP_seq ?_; refine Wr ?_; refine Tm ?_; refine Tf ?_; refine Tl ?_; refine L_fld (Rd.pers ‹_›) (ty rfl) rfl ?_; refine Tlen ?_; refine Tc ?_; refine On ?_; refine Wc ?_ ?_ <;> intro c5_1 <;> (first | simp [*] at c5_1; done | try simp at c5_1); refine WP_exit ?_; refine then_e ?_; refine roundF_e ?_; refine block_e ?_; refine then_n ?_; refine Wr ?_; refine Tm ?_; refine On ?_; refine WP_ret ?_))
  refine pret (.inl rfl) rfl ⟨_, _, rfl, rfl, rfl⟩ ?_
  simp only [resOf]; rw [← ht]; rfl
attribute [local irreducible] goesB
theorem refFollow_s {h : Frag} {a : Value} {vs : List View} {mm : Int} {id : ID} (hs : SL h 13 (ViewC 4398046511104) a vs) (hsm : vs.length ≤ 1000) : PSpec Tryz.prog 69 #[a, .int .i64 mm, .agg (idc id).toArray] h
    (fun h' v => ∃ p c, v = .tuple #[.slice p (followOf vs mm id).1.length c, .int .i64 (followOf vs mm id).2] ∧ SL h' 1 IntC (.slice p (followOf vs mm id).1.length c) (followOf vs mm id).1) := by
  have hl := hs.le
  obtain ⟨i1, i2⟩ := id
  refine pspec_of (vs := [a, .int .i64 mm, .agg (idc (i1, i2)).toArray]) Tryz.func69 Tryz.ntmps69 rfl rfl ?_
  (focus (refine Wr ?_; refine Tbx ?_; intro b0_1; refine Tm ?_; refine Tm ?_; refine On ?_; refine Wr ?_; refine S_c rfl rfl rfl (C_buildSlice rfl (elm rfl) (zer rfl) rfl rfl rfl rfl ?_); intro b0_2; refine Tm ?_; refine On ?_; refine WP_block ?_))
  refine WP.perm (L2 := (b0_1, cells (idc (i1, i2)) 35) :: ([(b0_2, cells [] 3)] ++ [])) perm2 ?_
  (focus (refine WP_keepM [] [_] _ rfl ?_; rintro h1_k l1_k k1_k; have a1_k := at_of_keep k1_k; clear k1_k; replace hs := hs.up l1_k))
  (refine WP_loopF (α := Int × List Int × Option Addr × Nat × Hp) [5, 0] (fun (s : Int × List Int × Option Addr × Nat × Hp) => vs.length + 1 - s.2.1.length) (fun (s : Int × List Int × Option Addr × Nat × Hp) => s.2.2.2.2 ++ []) (fun (s : Int × List Int × Option Addr × Nat × Hp) => [(1, .int .i64 s.1), (8, .slice s.2.2.1 s.2.1.length s.2.2.2.1)]) (fun hh (s : Int × List Int × Option Addr × Nat × Hp) => hh = h1_k ∧ OS hh 3 1 IntC (.slice s.2.2.1 s.2.1.length s.2.2.2.1) s.2.1 s.2.2.2.2 ∧ s.2.1.Nodup ∧ (∀ x, x ∈ s.2.1 → (viewOf vs x).isSome = true) ∧ followF vs (i1, i2) (vs.length + 1 - s.2.1.length) s.1 s.2.1 = followOf vs mm (i1, i2)) (mm, [], some ⟨b0_2, 0, none⟩, 0, [(b0_2, cells [] 3)]) ⟨_, _, rfl, ⟨_, _, rfl, rfl, rfl⟩, rfl⟩ ?_ (by repeat' first | exact sR _ | exact sA _ _ | exact sN _ | apply s2 | apply s1) (by repeat' first | exact trivial | refine ⟨rfl, ?_⟩) ?_)
  · exact ⟨rfl, OS.lit0 _ _ _ _ _, List.nodup_nil, fun x hx => by simp at hx, by rw [followOf]; rfl⟩
  rintro h1 ⟨m, out, p, c, M⟩ _ ⟨rfl, hos, hnd, hvw, hfo⟩
  simp only at hos hnd hvw hfo
  have hol : out.length ≤ vs.length := by
    have := nodup_sub out (vs.map (·.machine)) hnd (fun x hx => viewOf_mem (hvw x hx))
    simpa using this
  obtain ⟨n, hn⟩ : ∃ n, vs.length + 1 - out.length = n + 1 := ⟨vs.length - out.length, by omega⟩
  rw [hn, followF] at hfo
  dsimp only
  cases hst : stubOf (vwAt vs m) (i1, i2) with
  | none =>
    have hr := routeOf_none hst
    (focus (refine WP_block ?_; refine Wr ?_; refine Tm ?_; refine Tm ?_; refine S_c rfl rfl rfl (C_call0 (refView_s ‹_›) rfl rfl ⟨_, _, rfl, ⟨_, _, rfl, rfl, rfl⟩, rfl⟩ (cal rfl) ?_); rintro _ ⟨cv3_1, rfl, cl3_1, co3_1, ⟨xi3_1, xa3_1, po3_1, qo3_1, ps3_1, qs3_1, pc3_1, qc3_1, pn3_1, qn3_1, pm3_1, qm3_1, xw3_1, xv3_1, pf3_1, qf3_1, pr3_1, qr3_1, xe3_1, xf3_1, rfl, vo3_1, vs3_1, vc3_1, vn3_1, vm3_1, vf3_1, vr3_1⟩⟩; refine Tm ?_; refine Tx ?_; refine Tx ?_; refine Tal ?_; intro b3_2; refine Tw u0 ?_; refine Tm ?_; refine On ?_; refine Wr ?_; refine Tl ?_; refine Lg m0 ?_; refine Tl ?_; refine Lp ?_; refine S_c rfl rfl rfl (C_callv (refRoute_s ⟨by assumption, _, _, _, _, _, _, _, _, _, _, _, _, _, _, _, _, _, _, _, rfl, by assumption, by assumption, by assumption, by assumption, by assumption, by assumption, by assumption⟩) rfl rfl ⟨_, _, rfl, ⟨_, _, rfl, rfl, rfl⟩, rfl⟩ (cal rfl) ?_); refine Tm ?_; refine Tx ?_; refine Tx ?_; refine Tx ?_; refine Tm ?_; refine Tm ?_; refine Tm ?_; refine On ?_; refine WP_seq ?_; refine Wr ?_; refine Tm ?_; refine S_q rfl rfl rfl (Q_not rfl rfl) ?_; refine Tm ?_; refine Ugs ?_ ?_ <;> intro c3_3 <;> (first | simp [*] at c3_3; done | try simp at c3_3); (focus (refine Tn ?_; refine Tn ?_; refine Tn ?_; refine Tn ?_; refine Tn ?_; refine S_gu rfl rfl rfl rfl rfl rfl ?_; refine S_gu rfl rfl rfl rfl rfl rfl ?_; refine Tn ?_; refine Tp1 ?_; refine On ?_; refine cond_t rfl ?_; refine WP_seq ?_; refine Wr ?_; refine Tm ?_; refine Tlen ?_; refine Tc ?_; refine On ?_; refine Wc ?_ ?_ <;> intro c3_4 <;> (first | simp [*] at c3_4; done | try simp at c3_4); (focus (refine Wr ?_; refine Tm ?_; refine Tm ?_; refine On ?_; refine WP_ret ?_; refine then_r ?_; refine then_r ?_; refine block_r ?_; refine roundF_r ?_; refine block_r ?_)); rotate_left 1; (focus (refine WP_skip ?_; refine then_n ?_; refine Wr ?_; refine Tm ?_; refine Tm ?_; refine On ?_; refine WP_ret ?_; refine then_r ?_; refine block_r ?_; refine roundF_r ?_; refine block_r ?_)); rotate_left 1)); rotate_left 2; (focus (refine Ugl ?_; refine Lg m0 ?_; refine Ugl ?_; refine Lp ?_; refine S_gc rfl rfl rfl rfl rfl rfl (C_callv (refLocal_s ⟨by assumption, _, _, _, _, _, _, _, _, _, _, _, _, _, _, _, _, _, _, _, rfl, by assumption, by assumption, by assumption, by assumption, by assumption, by assumption, by assumption⟩) rfl rfl ⟨_, _, rfl, ⟨_, _, rfl, rfl, rfl⟩, rfl⟩ (cal rfl) ?_); refine S_gq rfl rfl rfl rfl rfl rfl (Q_not rfl rfl) ?_; refine Ugm ?_; refine Ugs ?_ ?_ <;> intro c3_5 <;> (first | simp [*] at c3_5; done | try simp at c3_5); (focus (refine Ugm ?_; refine S_gq rfl rfl rfl rfl rfl rfl (Q_not rfl rfl) ?_; refine S_gq rfl rfl rfl rfl rfl rfl (Q_pick_t rfl rfl rfl) ?_; refine Tp0 ?_; refine On ?_; refine Wc ?_ ?_ <;> intro c3_6 <;> (first | simp [*] at c3_6; done | try simp at c3_6); refine WP_seq ?_; refine Wr ?_; refine Tm ?_; refine Tlen ?_; refine Tc ?_; refine On ?_; refine Wc ?_ ?_ <;> intro c3_7 <;> (first | simp [*] at c3_7; done | try simp at c3_7); (focus (refine Wr ?_; refine Tm ?_; refine Tm ?_; refine On ?_; refine WP_ret ?_; refine then_r ?_; refine then_r ?_; refine block_r ?_; refine roundF_r ?_; refine block_r ?_)); rotate_left 1; (focus (refine WP_skip ?_; refine then_n ?_; refine Wr ?_; refine Tm ?_; refine Tm ?_; refine On ?_; refine WP_ret ?_; refine then_r ?_; refine block_r ?_; refine roundF_r ?_; refine block_r ?_)); rotate_left 1)); rotate_left 2; (focus (refine Tn ?_; refine Tn ?_; refine S_gq rfl rfl rfl rfl rfl rfl (Q_pick_f rfl rfl rfl) ?_; refine Tp0 ?_; refine On ?_; refine cond_f rfl ?_; refine WP_skip ?_; refine then_n ?_; refine WP_seq ?_; refine Wr ?_; refine Tm ?_; refine Tm ?_)); rotate_left 1)); rotate_left 3))
    iterate 4
      · refine pret (.inl rfl) rfl ⟨_, _, rfl, ⟨_, _, rfl, rfl, rfl⟩, rfl⟩ ?_
        first
          | (have hres : followOf vs mm (i1, i2) = ([], 6) := by rw [← hfo]; simp [*]
             rw [hres]; exact ⟨_, _, rfl, SLB.nil _ _ _ _ _ _⟩)
          | (have hres : followOf vs mm (i1, i2) = ([], 11) := by rw [← hfo]; simp [*]
             rw [hres]; exact ⟨_, _, rfl, SLB.nil _ _ _ _ _ _⟩)
    refine S_w rfl rfl rfl (W_callBv (M := M) [_] _ (fun h' hl' hm => refIn_s (x := m) (hos.sl hl' IntC_mono hm (by omega))) rfl rfl ⟨_, _, rfl, ⟨_, _, rfl, rfl, rfl⟩, rfl⟩ (cal rfl) rfl ?_)
    (focus (refine On ?_; refine Wc ?_ ?_ <;> intro c4_1 <;> (first | simp [*] at c4_1; done | try simp at c4_1); (focus (refine Wr ?_; refine Tm ?_; refine Tm ?_; refine On ?_; refine WP_ret ?_; refine then_r ?_; refine block_r ?_; refine roundF_r ?_; refine block_r ?_)); rotate_left 1; (focus (refine WP_skip ?_; refine then_n ?_; refine Wr ?_; refine Tm ?_; refine Tm ?_; refine S_c rfl rfl rfl (C_buildSlice rfl (elm rfl) (zer rfl) rfl ⟨_, _, _, rfl, rfl, rfl, rfl, rfl, rfl⟩ rfl rfl ?_); intro b4_2; refine S_w rfl rfl rfl (W_app1 [_] _ hos rfl rfl rfl rfl rfl rfl (elm rfl) (zer rfl) rfl rfl rfl rfl rfl (by (try simp only [lA]); omega) (by (try simp only [lA]); omega) ?_); rintro p4_3 q4_3 m4_3 o4_3; refine Tm ?_; refine On ?_; refine WP_seq ?_; refine Wr ?_; refine Tl ?_; refine Lg m0 ?_; refine Tl ?_; refine Lp ?_; refine S_c rfl rfl rfl (C_callv (refLocal_s ⟨by assumption, _, _, _, _, _, _, _, _, _, _, _, _, _, _, _, _, _, _, _, rfl, by assumption, by assumption, by assumption, by assumption, by assumption, by assumption, by assumption⟩) rfl rfl ⟨_, _, rfl, ⟨_, _, rfl, rfl, rfl⟩, rfl⟩ (cal rfl) ?_); refine On ?_; refine Wc ?_ ?_ <;> intro c4_4 <;> (first | simp [*] at c4_4; done | try simp at c4_4); refine Wr ?_; refine Tm ?_; refine Tm ?_; refine Tm ?_; refine On ?_; refine WP_ret ?_; refine then_r ?_; refine block_r ?_; refine roundF_r ?_; refine block_r ?_)); rotate_left 1))
    · refine pret (.inl rfl) rfl ⟨_, _, rfl, ⟨_, _, rfl, rfl, rfl⟩, rfl⟩ ?_
      have hres : followOf vs mm (i1, i2) = ([], 11) := by rw [← hfo]; simp [*]
      rw [hres]; exact ⟨_, _, rfl, SLB.nil _ _ _ _ _ _⟩
    · have hres : followOf vs mm (i1, i2) = (out ++ [m], 0) := by rw [← hfo]; simp [*]
      refine pretKM [_] m4_3 _ rfl (.inl rfl) rfl ⟨_, _, rfl, ⟨_, _, rfl, rfl, rfl⟩, rfl⟩ fun h' hl' hm => ?_
      rw [hres]; exact ⟨_, _, rfl, o4_3.sl hl' IntC_mono hm (by simp; omega)⟩
  | some st =>
    have hr := routeOf_some hst
    (focus (refine WP_block ?_; refine Wr ?_; refine Tm ?_; refine Tm ?_; refine S_c rfl rfl rfl (C_call0 (refView_s ‹_›) rfl rfl ⟨_, _, rfl, ⟨_, _, rfl, rfl, rfl⟩, rfl⟩ (cal rfl) ?_); rintro _ ⟨cv5_1, rfl, cl5_1, co5_1, ⟨xi5_1, xa5_1, po5_1, qo5_1, ps5_1, qs5_1, pc5_1, qc5_1, pn5_1, qn5_1, pm5_1, qm5_1, xw5_1, xv5_1, pf5_1, qf5_1, pr5_1, qr5_1, xe5_1, xf5_1, rfl, vo5_1, vs5_1, vc5_1, vn5_1, vm5_1, vf5_1, vr5_1⟩⟩; refine Tm ?_; refine Tx ?_; refine Tx ?_; refine Tal ?_; intro b5_2; refine Tw u0 ?_; refine Tm ?_; refine On ?_; refine Wr ?_; refine Tl ?_; refine Lg m0 ?_; refine Tl ?_; refine Lp ?_; refine S_c rfl rfl rfl (C_callv (refRoute_s ⟨by assumption, _, _, _, _, _, _, _, _, _, _, _, _, _, _, _, _, _, _, _, rfl, by assumption, by assumption, by assumption, by assumption, by assumption, by assumption, by assumption⟩) rfl rfl ⟨_, _, rfl, ⟨_, _, rfl, rfl, rfl⟩, rfl⟩ (cal rfl) ?_); refine Tm ?_; refine Tx ?_; refine Tx ?_; refine Tx ?_; refine Tm ?_; refine Tm ?_; refine Tm ?_; refine On ?_; refine WP_seq ?_; refine Wr ?_; refine Tm ?_; refine S_q rfl rfl rfl (Q_not rfl rfl) ?_; refine Tm ?_; refine Ugs ?_ ?_ <;> intro c5_3 <;> (first | simp [*] at c5_3; done | try simp at c5_3); (focus (refine Tn ?_; refine Tn ?_; refine Tn ?_; refine Tn ?_; refine Tn ?_; refine S_gu rfl rfl rfl rfl rfl rfl ?_; refine S_gu rfl rfl rfl rfl rfl rfl ?_; refine Tn ?_; refine Tp1 ?_; refine On ?_; refine cond_t rfl ?_; refine WP_seq ?_; refine Wr ?_; refine Tm ?_; refine Tlen ?_; refine Tc ?_; refine On ?_; refine Wc ?_ ?_ <;> intro c5_4 <;> (first | simp [*] at c5_4; done | try simp at c5_4); (focus (refine Wr ?_; refine Tm ?_; refine Tm ?_; refine On ?_; refine WP_ret ?_; refine then_r ?_; refine then_r ?_; refine block_r ?_; refine roundF_r ?_; refine block_r ?_)); rotate_left 1; (focus (refine WP_skip ?_; refine then_n ?_; refine Wr ?_; refine Tm ?_; refine Tm ?_; refine On ?_; refine WP_ret ?_; refine then_r ?_; refine block_r ?_; refine roundF_r ?_; refine block_r ?_)); rotate_left 1)); rotate_left 2; (focus (refine Ugl ?_; refine Lg m0 ?_; refine Ugl ?_; refine Lp ?_; refine S_gc rfl rfl rfl rfl rfl rfl (C_callv (refLocal_s ⟨by assumption, _, _, _, _, _, _, _, _, _, _, _, _, _, _, _, _, _, _, _, rfl, by assumption, by assumption, by assumption, by assumption, by assumption, by assumption, by assumption⟩) rfl rfl ⟨_, _, rfl, ⟨_, _, rfl, rfl, rfl⟩, rfl⟩ (cal rfl) ?_); refine S_gq rfl rfl rfl rfl rfl rfl (Q_not rfl rfl) ?_; refine Ugm ?_; refine Ugs ?_ ?_ <;> intro c5_5 <;> (first | simp [*] at c5_5; done | try simp at c5_5); (focus (refine Ugm ?_; refine S_gq rfl rfl rfl rfl rfl rfl (Q_not rfl rfl) ?_; refine S_gq rfl rfl rfl rfl rfl rfl (Q_pick_t rfl rfl rfl) ?_; refine Tp0 ?_; refine On ?_; refine Wc ?_ ?_ <;> intro c5_6 <;> (first | simp [*] at c5_6; done | try simp at c5_6); refine WP_skip ?_; refine then_n ?_; refine WP_seq ?_; refine Wr ?_; refine Tm ?_; refine Tm ?_)); rotate_left 1; (focus (refine Tn ?_; refine Tn ?_; refine S_gq rfl rfl rfl rfl rfl rfl (Q_pick_f rfl rfl rfl) ?_; refine Tp0 ?_; refine On ?_; refine cond_f rfl ?_; refine WP_skip ?_; refine then_n ?_; refine WP_seq ?_; refine Wr ?_; refine Tm ?_; refine Tm ?_)); rotate_left 1)); rotate_left 2))
    iterate 2
      · refine pret (.inl rfl) rfl ⟨_, _, rfl, ⟨_, _, rfl, rfl, rfl⟩, rfl⟩ ?_
        first
          | (have hres : followOf vs mm (i1, i2) = ([], 6) := by rw [← hfo]; simp [*]
             rw [hres]; exact ⟨_, _, rfl, SLB.nil _ _ _ _ _ _⟩)
          | (have hres : followOf vs mm (i1, i2) = ([], 11) := by rw [← hfo]; simp [*]
             rw [hres]; exact ⟨_, _, rfl, SLB.nil _ _ _ _ _ _⟩)
    · refine S_w rfl rfl rfl (W_callBv (M := M) [_] _ (fun h' hl' hm => refIn_s (x := m) (hos.sl hl' IntC_mono hm (by omega))) rfl rfl ⟨_, _, rfl, ⟨_, _, rfl, rfl, rfl⟩, rfl⟩ (cal rfl) rfl ?_)
      (focus (refine On ?_; refine Wc ?_ ?_ <;> intro c6_1 <;> (first | simp [*] at c6_1; done | try simp at c6_1); (focus (refine Wr ?_; refine Tm ?_; refine Tm ?_; refine On ?_; refine WP_ret ?_; refine then_r ?_; refine block_r ?_; refine roundF_r ?_; refine block_r ?_)); rotate_left 1; (focus (refine WP_skip ?_; refine then_n ?_; refine Wr ?_; refine Tm ?_; refine Tm ?_; refine S_c rfl rfl rfl (C_buildSlice rfl (elm rfl) (zer rfl) rfl ⟨_, _, _, rfl, rfl, rfl, rfl, rfl, rfl⟩ rfl rfl ?_); intro b6_2; refine S_w rfl rfl rfl (W_app1 [_] _ hos rfl rfl rfl rfl rfl rfl (elm rfl) (zer rfl) rfl rfl rfl rfl rfl (by (try simp only [lA]); omega) (by (try simp only [lA]); omega) ?_); rintro p6_3 q6_3 m6_3 o6_3; refine Tm ?_; refine On ?_; refine WP_seq ?_; refine Wr ?_; refine Tl ?_; refine Lg m0 ?_; refine Tl ?_; refine Lp ?_; refine S_c rfl rfl rfl (C_callv (refLocal_s ⟨by assumption, _, _, _, _, _, _, _, _, _, _, _, _, _, _, _, _, _, _, _, rfl, by assumption, by assumption, by assumption, by assumption, by assumption, by assumption, by assumption⟩) rfl rfl ⟨_, _, rfl, ⟨_, _, rfl, rfl, rfl⟩, rfl⟩ (cal rfl) ?_); refine On ?_; refine Wc ?_ ?_ <;> intro c6_4 <;> (first | simp [*] at c6_4; done | try simp at c6_4); refine WP_skip ?_; refine then_n ?_; refine WP_seq ?_; refine Wr ?_; refine Tm ?_; refine Tm ?_; refine Tm ?_; refine Tm ?_; refine S_c rfl rfl rfl (C_callv (refKnown_s ‹_›) rfl rfl ⟨_, _, rfl, ⟨_, _, rfl, ⟨_, _, rfl, ⟨_, _, rfl, rfl, rfl⟩, rfl⟩, rfl⟩, rfl⟩ (cal rfl) ?_); refine On ?_; refine Wc ?_ ?_ <;> intro c6_5 <;> (first | simp [*] at c6_5; done | try simp at c6_5); (focus (refine WP_seq ?_; refine WP_seq ?_; refine R_draw (n := 7) mixed rfl ?_; refine Va 0 ?_; refine Vm 1 ?_; refine Va 1 ?_; refine Vm 3 ?_; refine Va 2 ?_; refine Vm 7 ?_; refine Va 3 ?_; refine Vm 15 ?_; refine Va 5 ?_; refine Vl 47 ?_; refine Lp ?_; refine Va 4 ?_; refine A_c (m' := 63) rfl rfl rfl rfl (by decide +kernel) (C_callv (refScion_s ‹_›) rfl rfl ⟨_, _, rfl, ⟨_, _, rfl, ⟨_, _, rfl, ⟨_, _, rfl, rfl, rfl⟩, rfl⟩, rfl⟩, rfl⟩ (cal rfl) ?_); refine Va 6 ?_; refine A_q (m' := 127) rfl rfl rfl (Q_neI eqID rfl rfl rfl rfl rfl) rfl (by decide +kernel) ?_; refine A_done (by decide +kernel) ?_; refine then_n ?_; refine Wc ?_ ?_ <;> intro c6_6 <;> (first | simp [*] at c6_6; done | try simp at c6_6); (focus (refine Wr ?_; refine Tm ?_; refine Tm ?_; refine On ?_; refine WP_ret ?_; refine then_r ?_; refine then_r ?_; refine block_r ?_; refine roundF_r ?_; refine block_r ?_)); rotate_left 1; (focus (refine WP_skip ?_; refine then_n ?_; refine Wr ?_; refine Tm ?_; refine Tm ?_; refine On ?_; refine WP_exit ?_; refine then_e ?_; refine block_e ?_)); rotate_left 1)); rotate_left 2; (focus (refine WP_skip ?_; refine then_n ?_; refine WP_seq ?_; refine Wr ?_; refine Tm ?_; refine Tl ?_; refine Lg m0 ?_; refine Tm ?_; refine Tl ?_; refine Lp ?_; refine Tm ?_; refine S_c rfl rfl rfl (C_callv (refCarried_s ‹_› ⟨by assumption, _, _, _, _, _, _, _, _, _, _, _, _, _, _, _, _, _, _, _, rfl, by assumption, by assumption, by assumption, by assumption, by assumption, by assumption, by assumption⟩) rfl rfl ⟨_, _, rfl, ⟨_, _, rfl, ⟨_, _, rfl, ⟨_, _, rfl, ⟨_, _, rfl, rfl, rfl⟩, rfl⟩, rfl⟩, rfl⟩, rfl⟩ (cal rfl) ?_); refine On ?_; refine Wc ?_ ?_ <;> intro c6_7 <;> (first | simp [*] at c6_7; done | try simp at c6_7); (focus (refine Wr ?_; refine Tm ?_; refine Tm ?_; refine S_c rfl rfl rfl (C_buildSlice rfl (elm rfl) (zer rfl) rfl ⟨_, _, _, rfl, rfl, rfl, rfl, rfl, rfl⟩ rfl rfl ?_); intro b6_8; refine S_w rfl rfl rfl (W_app1 [_] _ o6_3 rfl rfl rfl rfl rfl rfl (elm rfl) (zer rfl) rfl rfl rfl rfl rfl (by (try simp only [lA]); omega) (by (try simp only [lA]); omega) ?_); rintro p6_9 q6_9 m6_9 o6_9; refine Tm ?_; refine Tm ?_; refine On ?_; refine WP_ret ?_; refine then_r ?_; refine block_r ?_; refine roundF_r ?_; refine block_r ?_)); rotate_left 1; (focus (refine WP_skip ?_; refine then_n ?_; refine Wr ?_; refine Tm ?_; refine Tm ?_; refine On ?_; refine WP_ret ?_; refine block_r ?_; refine roundF_r ?_; refine block_r ?_)); rotate_left 1)); rotate_left 2)); rotate_left 4))
      · refine pret (.inl rfl) rfl ⟨_, _, rfl, ⟨_, _, rfl, rfl, rfl⟩, rfl⟩ ?_
        have hres : followOf vs mm (i1, i2) = ([], 11) := by rw [← hfo]; simp [*]
        rw [hres]; exact ⟨_, _, rfl, SLB.nil _ _ _ _ _ _⟩
      · rw [hr] at c6_5 c6_6
        simp only at c6_5 c6_6
        obtain ⟨e, he⟩ := Option.isSome_iff_exists.1 c6_5
        have hid : ¬ e.id = (i1, i2) := fun e' => by rw [he, Option.getD_some, e'] at c6_6; simp at c6_6
        have hres : followOf vs mm (i1, i2) = ([], 11) := by rw [← hfo]; simp [*]
        refine pret (.inl rfl) rfl ⟨_, _, rfl, ⟨_, _, rfl, rfl, rfl⟩, rfl⟩ ?_
        rw [hres]; exact ⟨_, _, rfl, SLB.nil _ _ _ _ _ _⟩
      · rw [hr] at c6_5 c6_6
        simp only at c6_5 c6_6
        obtain ⟨e, he⟩ := Option.isSome_iff_exists.1 c6_5
        have hid : e.id = (i1, i2) := by rw [he] at c6_6; exact Prod.ext c6_6.1 c6_6.2
        have hres : followOf vs mm (i1, i2) = followF vs (i1, i2) n (routeOf (vwAt vs m) (i1, i2)).1 (out ++ [m]) := by rw [← hfo, hr]; simp [*]
        refine roundF_n ((routeOf (vwAt vs m) (i1, i2)).1, out ++ [m], p6_3, q6_3, m6_3) (by simp; omega) ⟨rfl, o6_3, ?_, ?_, ?_⟩ (by repeat' first | exact sR _ | exact sA _ _ | exact sN _ | apply s2 | apply s1) (by repeat' first | exact trivial | refine ⟨rfl, ?_⟩)
        · simp only; rw [List.nodup_append]; exact ⟨hnd, by simp, fun a ha b hb e => by simp at hb; subst hb; subst e; exact c6_1 ha⟩
        · simp only; intro x hx; rcases List.mem_append.1 hx with hx | hx
          · exact hvw x hx
          · simp at hx; subst hx; exact c5_3
        · simp only; rw [hres]; congr 1; simp; omega
      · rw [hr] at c6_5 c6_7
        simp only at c6_5 c6_7
        have hcar : carriedB vs m st.owner (i1, i2) st.number = true := by rw [carriedB_goes]; simpa using c6_7
        have hres : followOf vs mm (i1, i2) = (out ++ [m] ++ [(routeOf (vwAt vs m) (i1, i2)).1], 0) := by rw [← hfo, hr]; simp [*]
        refine pretKM [_] m6_9 _ rfl (.inl rfl) rfl ⟨_, _, rfl, ⟨_, _, rfl, rfl, rfl⟩, rfl⟩ fun h' hl' hm => ?_
        rw [hres]; exact ⟨_, _, rfl, o6_9.sl hl' IntC_mono hm (by simp; omega)⟩
      · rw [hr] at c6_5 c6_7
        simp only at c6_5 c6_7
        have hcar : carriedB vs m st.owner (i1, i2) st.number = false := by rw [carriedB_goes]; simpa using c6_7
        have hres : followOf vs mm (i1, i2) = ([], 11) := by rw [← hfo]; simp [*]
        refine pret (.inl rfl) rfl ⟨_, _, rfl, ⟨_, _, rfl, rfl, rfl⟩, rfl⟩ ?_
        rw [hres]; exact ⟨_, _, rfl, SLB.nil _ _ _ _ _ _⟩
    · refine S_w rfl rfl rfl (W_callBv (M := M) [_] _ (fun h' hl' hm => refIn_s (x := m) (hos.sl hl' IntC_mono hm (by omega))) rfl rfl ⟨_, _, rfl, ⟨_, _, rfl, rfl, rfl⟩, rfl⟩ (cal rfl) rfl ?_)
      (focus (refine On ?_; refine Wc ?_ ?_ <;> intro c7_1 <;> (first | simp [*] at c7_1; done | try simp at c7_1); (focus (refine Wr ?_; refine Tm ?_; refine Tm ?_; refine On ?_; refine WP_ret ?_; refine then_r ?_; refine block_r ?_; refine roundF_r ?_; refine block_r ?_)); rotate_left 1; (focus (refine WP_skip ?_; refine then_n ?_; refine Wr ?_; refine Tm ?_; refine Tm ?_; refine S_c rfl rfl rfl (C_buildSlice rfl (elm rfl) (zer rfl) rfl ⟨_, _, _, rfl, rfl, rfl, rfl, rfl, rfl⟩ rfl rfl ?_); intro b7_2; refine S_w rfl rfl rfl (W_app1 [_] _ hos rfl rfl rfl rfl rfl rfl (elm rfl) (zer rfl) rfl rfl rfl rfl rfl (by (try simp only [lA]); omega) (by (try simp only [lA]); omega) ?_); rintro p7_3 q7_3 m7_3 o7_3; refine Tm ?_; refine On ?_; refine WP_seq ?_; refine Wr ?_; refine Tl ?_; refine Lg m0 ?_; refine Tl ?_; refine Lp ?_; refine S_c rfl rfl rfl (C_callv (refLocal_s ⟨by assumption, _, _, _, _, _, _, _, _, _, _, _, _, _, _, _, _, _, _, _, rfl, by assumption, by assumption, by assumption, by assumption, by assumption, by assumption, by assumption⟩) rfl rfl ⟨_, _, rfl, ⟨_, _, rfl, rfl, rfl⟩, rfl⟩ (cal rfl) ?_); refine On ?_; refine Wc ?_ ?_ <;> intro c7_4 <;> (first | simp [*] at c7_4; done | try simp at c7_4); refine Wr ?_; refine Tm ?_; refine Tm ?_; refine Tm ?_; refine On ?_; refine WP_ret ?_; refine then_r ?_; refine block_r ?_; refine roundF_r ?_; refine block_r ?_)); rotate_left 1))
      · refine pret (.inl rfl) rfl ⟨_, _, rfl, ⟨_, _, rfl, rfl, rfl⟩, rfl⟩ ?_
        have hres : followOf vs mm (i1, i2) = ([], 11) := by rw [← hfo]; simp [*]
        rw [hres]; exact ⟨_, _, rfl, SLB.nil _ _ _ _ _ _⟩
      · have hres : followOf vs mm (i1, i2) = (out ++ [m], 0) := by rw [← hfo]; simp [*]
        refine pretKM [_] m7_3 _ rfl (.inl rfl) rfl ⟨_, _, rfl, ⟨_, _, rfl, rfl, rfl⟩, rfl⟩ fun h' hl' hm => ?_
        rw [hres]; exact ⟨_, _, rfl, o7_3.sl hl' IntC_mono hm (by simp; omega)⟩
end Go.Proofs.YtfhoecgiahpddaaGreat
/-
  CONTRACTS: slices.Grow and slices.Concat at identities.
-/
set_option linter.all false
namespace Go.Proofs.YtfhoecgiahpddaaGreat
open Go.Mesh Go.RowKit
set_option maxRecDepth 100000
set_option linter.unusedVariables false
set_option maxHeartbeats 4000000
attribute [local irreducible] WP OPS ANY ANYo LG LV FSpec PSpec QOP OPc OPw thenQ blockQ roundQ roundF retQ retM Rd At SLB OS cmpI orI cmpID namedB valB nodeB kindB validG valAux idxI findG zeroV viewOf vwAt idxOf recv flyB scionOf moveOf numberedOf idOf valueOf mget mput localB carriedB stubOf followF followOf flOf flightsOf flPre setL minusL compactL putI mergeN insN insAll unionR NMap Coll retN bodyS GMap Dfs refsV refsOf reachL movedOf movedG graphParts graphR isMove flightIDs mailIDs viewIDs rawRoots rootsR reachR deadN viewObjs garbageOf garbageR objsL
def IDsC (B : Nat) : CR (List ID) := fun h l vs => ∃ p c, vs = [.slice p l.length c] ∧ SLB B h 2 IDC (.slice p l.length c) l
instance (B : Nat) : CM (IDsC B) := ⟨fun _ _ _ _ hl ⟨p, c, e, s⟩ => ⟨p, c, e, s.mono hl IDC_mono⟩⟩
theorem flat_take {α : Type} {ls : List (List α)} {k : Nat} {l : List α} (hl : ls[k]? = some l) : (ls.take (k + 1)).flatten = (ls.take k).flatten ++ l := by
  rw [List.take_add_one, hl]; simp
theorem flat_take_le {α : Type} (ls : List (List α)) (k : Nat) : (ls.take k).flatten.length ≤ ls.flatten.length := by
  conv => rhs; rw [← List.take_append_drop k ls, List.flatten_append, List.length_append]
  omega
theorem grow_s {h : Frag} {n : Nat} (hn : n ≤ 4398046511104) : FSpec Tryz.prog 107 #[.slice none 0 0, .int .i64 (n : Int)] h [] (fun h' L' v => h' = h ∧ ∃ p c, v = .slice p ([] : List ID).length c ∧ OS h 35 2 IDC (.slice p ([] : List ID).length c) [] L') := by
  refine spec_of (vs := [.slice none 0 0, .int .i64 (n : Int)]) Tryz.func107 Tryz.ntmps107 rfl rfl rfl ?_
  (focus (refine Wr ?_; refine Tm ?_; refine On ?_; refine WP_seq ?_; refine Wr ?_; refine Tm ?_; refine Tc ?_; refine On ?_; refine cond_f rfl ?_; refine WP_skip ?_; refine then_n ?_; refine WP_seq ?_; refine Wr ?_; refine Tm ?_; refine Tm ?_; refine S_q rfl rfl rfl (Q_cap rfl rfl rfl rfl rfl rfl) ?_; refine Tm ?_; refine Tlen ?_; refine S_q rfl rfl rfl (Q_sub rfl rfl rfl (by omega)) ?_; refine S_q rfl rfl rfl (Q_sub rfl rfl rfl (by omega)) ?_; refine Tm ?_; refine On ?_; refine Wr ?_; refine Tm ?_; refine Tc ?_; refine On ?_; refine Wc ?_ ?_ <;> intro c0_1 <;> (first | simp [*] at c0_1; done | try simp at c0_1); (focus (refine R_region ?_; refine Tm ?_; refine Tm ?_; refine S_q rfl rfl rfl (Q_cap rfl rfl rfl rfl rfl rfl) ?_; refine S_q rfl rfl rfl (Q_slice0 rfl rfl (elm rfl) rfl rfl) ?_; refine Tm ?_)); rotate_left 1; (focus (refine WP_skip ?_; refine then_n ?_; refine Wr ?_; refine Tm ?_; refine Tm ?_; refine On ?_; refine WP_ret ?_)); rotate_left 1))
  · refine S_c rfl rfl rfl (C_appZ n rfl rfl rfl rfl rfl rfl (by simp) (elm rfl) (zer rfl) rfl (by rfl) (by omega) (by decide) (by omega) (by omega) ?_)
    rintro b cap rest hc hl
    (focus (refine Tm ?_; refine Tlen ?_; refine S_q rfl rfl rfl (Q_slice rfl rfl (elm rfl) rfl ⟨_, rfl⟩ (by omega) (by omega) (by omega)) ?_; refine Tm ?_; refine On ?_; refine Wr ?_; refine Tm ?_; refine Tm ?_; refine On ?_; refine WP_ret ?_))
    exact ret_q [(b, cells rest 35)] (.inl rfl) rfl ⟨_, _, rfl, rfl, rfl⟩ (by repeat' first | exact sR _ | exact sA _ _ | exact sN _ | apply s2 | apply s1) ⟨rfl, some ⟨b, 0, none⟩, cap, rfl, OS.make (xs := []) (rest := rest) rfl (Nat.zero_le _) (by simpa [flatI] using hl)⟩
  · subst c0_1
    exact ret_q [] (.inl rfl) rfl ⟨_, _, rfl, rfl, rfl⟩ (by repeat' first | exact sR _ | exact sA _ _ | exact sN _ | apply s2 | apply s1) ⟨rfl, _, _, rfl, OS.nil _ _ _ _⟩
theorem concat_s {h : Frag} {a : Value} {ls : List (List ID)} (hs : SL h 1 (IDsC 4398046511104) a ls) (hb : ls.flatten.length ≤ 4000000) : FSpec Tryz.prog 64 #[a] h [] (fun h' L' v => h' = h ∧ ∃ p c, v = .slice p ls.flatten.length c ∧ OS h 35 2 IDC (.slice p ls.flatten.length c) ls.flatten L') := by
  have hl := hs.le
  obtain ⟨pv, cv, rfl⟩ := hs.slice
  refine spec_of (vs := [.slice pv ls.length cv]) Tryz.func64 Tryz.ntmps64 rfl rfl rfl ?_
  (focus (refine Wr ?_; refine Tm ?_; refine On ?_; refine Wr ?_; refine Tm ?_; refine On ?_; refine WP_seq ?_; refine Wr ?_; refine Tm ?_; refine Tlen ?_; refine Tm ?_; refine On ?_; refine WP_block ?_))
  (refine WP_loopC (α := Nat) [10, 9, 0] (fun (k : Nat) => ls.length - k) (fun (k : Nat) => [(11, .int .i64 (k : Int)), (3, .int .i64 (((ls.take k).flatten.length : Nat) : Int))]) (fun hh (k : Nat) => hh = h ∧ k ≤ ls.length) 0 ⟨_, _, rfl, ⟨_, _, rfl, ⟨_, _, rfl, rfl, rfl⟩, rfl⟩, rfl⟩ (by repeat' first | exact trivial | refine ⟨rfl, ?_⟩) ?_ ?_)
  · exact ⟨rfl, Nat.zero_le _⟩
  rintro h1 k _ ⟨rfl, hk⟩
  have hle := flat_take_le ls k
  by_cases hlt : k < ls.length
  · obtain ⟨l, el⟩ := get_of hlt
    have htk := flat_take el
    have hle2 := flat_take_le ls (k + 1)
    rw [htk, List.length_append] at hle2
    (focus (refine Wr ?_; refine Tc ?_; refine On ?_; refine WP_seq ?_; refine Wc ?_ ?_ <;> intro c2_1 <;> (first | simp [*] at c2_1; done | try simp at c2_1); refine WP_skip ?_; refine then_n ?_; refine WP_seq ?_; refine WP_block ?_; refine Wr ?_; refine Ti ?_; refine Tl ?_; refine L_el1 ‹_› ‹_› (ty rfl) ?_; rintro _ ⟨pi2_2, qi2_2, ⟨⟩, fi2_2⟩; refine Tm ?_; refine On ?_; refine Wr ?_; refine Tm ?_; refine Tm ?_; refine Tlen ?_; refine Ta ?_; refine Tm ?_; refine On ?_; refine Wr ?_; refine Tm ?_; refine Tc ?_; refine On ?_; refine cond_f rfl ?_; refine WP_skip ?_; refine block_n ?_; refine then_n ?_; refine R_region ?_; refine Ta ?_; refine Tm ?_; refine OPS_nil ?_))
    refine roundF_n (k + 1) (by omega) ⟨rfl, by omega⟩ (by repeat' first | exact sR _ | exact sA _ _ | exact sN _ | apply s2 | apply s1) ?_
    rw [htk, List.length_append, Int.natCast_add]
    exact (by repeat' first | exact trivial | refine ⟨rfl, ?_⟩)
  have hge : k = ls.length := by omega
  subst hge
  rw [List.take_length]
  (focus (refine Wr ?_; refine Tc ?_; refine On ?_; refine WP_seq ?_; refine Wc ?_ ?_ <;> intro c3_1 <;> (first | simp [*] at c3_1; done | try simp at c3_1); refine WP_exit ?_; refine then_e ?_; refine roundF_e ?_; refine block_e ?_; refine then_n ?_; refine Wr ?_; refine Tm ?_; refine S_c rfl rfl rfl (C_callF (grow_s (by omega)) rfl rfl ⟨_, _, rfl, ⟨_, _, rfl, rfl, rfl⟩, rfl⟩ (cal rfl) ?_); rintro h3_2 m3_2 _ l3_2 ⟨e3_2, p3_2, q3_2, rfl, o3_2⟩; replace hs := hs.up l3_2; replace o3_2 := o3_2.up l3_2; refine Tm ?_; refine On ?_; refine WP_seq ?_; refine Wr ?_; refine Tm ?_; refine Tlen ?_; refine Tm ?_; refine On ?_; refine WP_block ?_))
  subst e3_2
  clear hle
  (refine WP_loopF (α := Nat × List ID × Option Addr × Nat × Hp) [26, 25] (fun (s : Nat × List ID × Option Addr × Nat × Hp) => ls.length - s.1) (fun (s : Nat × List ID × Option Addr × Nat × Hp) => s.2.2.2.2 ++ []) (fun (s : Nat × List ID × Option Addr × Nat × Hp) => [(27, .int .i64 (s.1 : Int)), (6, .slice s.2.2.1 s.2.1.length s.2.2.2.1)]) (fun hh (s : Nat × List ID × Option Addr × Nat × Hp) => hh = h3_2 ∧ s.1 ≤ ls.length ∧ s.2.1 = (ls.take s.1).flatten ∧ OS h3_2 35 2 IDC (.slice s.2.2.1 s.2.1.length s.2.2.2.1) s.2.1 s.2.2.2.2) (0, [], p3_2, q3_2, m3_2) ⟨_, _, rfl, ⟨_, _, rfl, rfl, rfl⟩, rfl⟩ ?_ (by repeat' first | exact sR _ | exact sA _ _ | exact sN _ | apply s2 | apply s1) (by repeat' first | exact trivial | refine ⟨rfl, ?_⟩) ?_)
  · exact ⟨rfl, Nat.zero_le _, rfl, o3_2⟩
  clear o3_2
  rintro h2 ⟨k, out, p, c, M⟩ _ ⟨rfl, hk, ho, hO⟩
  simp only at hk ho hO
  dsimp only
  have hle := flat_take_le ls k
  rw [← ho] at hle
  by_cases hlt : k < ls.length
  · obtain ⟨l, el⟩ := get_of hlt
    have htk := flat_take el
    have hle2 := flat_take_le ls (k + 1)
    rw [htk, ← ho, List.length_append] at hle2
    (focus (refine Wr ?_; refine Tc ?_; refine On ?_; refine WP_seq ?_; refine Wc ?_ ?_ <;> intro c5_1 <;> (first | simp [*] at c5_1; done | try simp at c5_1); refine WP_skip ?_; refine then_n ?_; refine WP_seq ?_; refine WP_block ?_; refine Wr ?_; refine Ti ?_; refine Tl ?_; refine L_el1 ‹_› ‹_› (ty rfl) ?_; rintro _ ⟨pi5_2, qi5_2, ⟨⟩, fi5_2⟩; refine Tm ?_; refine On ?_; refine R_region ?_; refine Tm ?_; refine Tm ?_; refine S_w rfl rfl rfl (W_appS [] _ ‹_› ‹_› rfl rfl rfl rfl rfl rfl (elm rfl) (zer rfl) rfl rfl (by (try simp only [lA]); omega) (by (try simp only [lA]); omega) ?_); rintro p5_3 q5_3 m5_3 o5_3; refine Tm ?_; refine OPS_nil ?_; refine block_n ?_; refine then_n ?_; refine R_region ?_; refine Ta ?_; refine Tm ?_; refine OPS_nil ?_))
    refine roundF_n (k + 1, out ++ l, p5_3, q5_3, m5_3) (by simp only; omega) ⟨rfl, by simp only; omega, ?_, o5_3⟩ (by repeat' first | exact sR _ | exact sA _ _ | exact sN _ | apply s2 | apply s1) (by repeat' first | exact trivial | refine ⟨rfl, ?_⟩)
    simp only; rw [htk, ho]
  have hge : k = ls.length := by omega
  subst hge
  rw [List.take_length] at ho
  subst ho
  (focus (refine Wr ?_; refine Tc ?_; refine On ?_; refine WP_seq ?_; refine Wc ?_ ?_ <;> intro c6_1 <;> (first | simp [*] at c6_1; done | try simp at c6_1); refine WP_exit ?_; refine then_e ?_; refine roundF_e ?_; refine block_e ?_; refine then_n ?_; refine Wr ?_; refine Tm ?_; refine Tm ?_; refine On ?_; refine WP_ret ?_))
  exact ret_q M (.inl rfl) rfl ⟨_, _, rfl, rfl, rfl⟩ (by repeat' first | exact sR _ | exact sA _ _ | exact sN _ | apply s2 | apply s1) ⟨rfl, p, c, rfl, hO⟩
end Go.Proofs.YtfhoecgiahpddaaGreat
/-
  CONTRACTS: observer.Safe.
-/
set_option linter.all false
namespace Go.Proofs.YtfhoecgiahpddaaGreat
open Go.Mesh Go.RowKit
set_option maxRecDepth 100000
set_option linter.unusedVariables false
set_option maxHeartbeats 4000000
attribute [local irreducible] WP OPS ANY ANYo LG LV FSpec PSpec QOP OPc OPw thenQ blockQ roundQ roundF retQ retM Rd At SLB OS cmpI orI cmpID namedB valB nodeB kindB validG valAux idxI findG zeroV viewOf vwAt idxOf recv flyB scionOf moveOf numberedOf idOf valueOf mget mput localB carriedB stubOf followF followOf flOf flightsOf flPre setL minusL compactL putI mergeN insN insAll unionR NMap Coll retN bodyS GMap Dfs refsV refsOf reachL movedOf movedG graphParts graphR isMove flightIDs mailIDs viewIDs rawRoots rootsR reachR deadN viewObjs garbageOf garbageR objsL
def thereB (g : List Nd) (id : ID) : Bool := match findG g id with | some n => decide (n.kind ≠ 3) | none => false
def oddB (g : List Nd) (v : Val) : Bool := decide (v.1 = 2) && !thereB g v.2.2
def badNode (g : List Nd) (n : Nd) : Bool := decide (n.kind ≠ 2) && n.fields.any (oddB g)
def lostF (vs : List View) (i : View × Flight) : Bool := decide (i.2.msg.kind = 0) && decide (numberedOf vs i.1.machine i.2.to i.2.msg.number = (0, 0))
def badStub (vs : List View) (live : List ID) (v : View) (s : StubE) : Bool := !s.weak && (!s.dead && (decide (s.id ∈ live) && decide ((followOf vs v.machine s.id).2 ≠ 0)))
def safe4 (vs : List View) (live : List ID) : Int := if vs.any (fun v => v.stubs.any (badStub vs live v)) then 11 else 0
def safe3 (vs : List View) (live : List ID) : Int := if (flightsOf vs).any (lostF vs) then 6 else safe4 vs live
def safe2 (vs : List View) (g : List Nd) (live : List ID) : Int := if live.any (fun id => badNode g ((findG g id).getD zeroN)) then 6 else safe3 vs live
def safe1 (vs : List View) (g : List Nd) (live roots : List ID) : Int := if (live ++ roots).any (fun id => !thereB g id) then 6 else safe2 vs g live
noncomputable def safeR (vs : List View) : Int := if (graphR vs).2 = 0 then safe1 vs (graphR vs).1 (reachL (graphR vs).1 (rootsR vs)) (rootsR vs) else (graphR vs).2
theorem badNode_weak {g : List Nd} {n : Nd} (h : n.kind = 2) : badNode g n = false := by simp [badNode, h]
theorem badNode_any {g : List Nd} {n : Nd} (h : ¬ n.kind = 2) : badNode g n = n.fields.any (oddB g) := by simp [badNode, h]
theorem lostF_other {vs : List View} {i : View × Flight} (h : ¬ i.2.msg.kind = 0) : lostF vs i = false := by simp [lostF, h]
theorem lostF_zero {vs : List View} {i : View × Flight} (h : i.2.msg.kind = 0) : lostF vs i = decide (numberedOf vs i.1.machine i.2.to i.2.msg.number = (0, 0)) := by simp [lostF, h]
theorem badStub_def (vs : List View) (live : List ID) (v : View) (s : StubE) : badStub vs live v s = (!s.weak && (!s.dead && (decide (s.id ∈ live) && decide ((followOf vs v.machine s.id).2 ≠ 0)))) := rfl
attribute [local irreducible] thereB oddB badNode lostF badStub safe1 safe2 safe3 safe4 safeR
theorem there_s {h : Frag} {g : List Nd} {us : List Value} {b : Nat} {id : ID} (hb : At h b 0 us) (hg : GraphC 4398046511104 h g us) : PSpec Tryz.prog 63 ([Value.agg (idc id).toArray] ++ [ptr b 0]).toArray h (fun _ v => v = .bool (thereB g id)) := by
  obtain ⟨p, c, rfl, hf⟩ := hg
  obtain ⟨i1, i2⟩ := id
  refine pspec_of (vs := [.agg (idc (i1, i2)).toArray, ptr b 0]) Tryz.func63 Tryz.ntmps63 rfl rfl ?_
  (focus (refine Wr ?_; refine Tbx ?_; intro b0_1; refine Tm ?_; refine On ?_; refine Wr ?_; refine Tl ?_; refine Lp ?_; refine Tl ?_; refine Lg m0 ?_; refine S_c rfl rfl rfl (C_call (find_s ⟨_, _, rfl, by assumption⟩) rfl rfl ⟨_, _, rfl, ⟨_, _, rfl, rfl, rfl⟩, rfl⟩ (cal rfl) ?_); rintro h0_2 _ l0_2 ⟨vf0_2, rfl, pn0_2, qn0_2, rfl, fn0_2⟩; replace hf := hf.up l0_2; replace hb := hb.up l0_2; refine Tm ?_; refine Tx ?_; refine Tx ?_; refine Tal ?_; intro b0_3; refine Tw u0 ?_; refine Tm ?_; refine On ?_; refine Wr ?_; refine Tm ?_; refine Tm ?_; refine Ugs ?_ ?_ <;> intro c0_4 <;> (first | simp [*] at c0_4; done | try simp at c0_4); (focus (refine Ugf ?_; refine Ugl ?_; refine Lo m0 ?_; refine Ugc ?_; refine Tp1 ?_; refine Tm ?_; refine On ?_; refine WP_ret ?_)); rotate_left 1; (focus (refine Tn ?_; refine Tn ?_; refine Tn ?_; refine Tp0 ?_; refine Tm ?_; refine On ?_; refine WP_ret ?_)); rotate_left 1))
  all_goals refine pret (.inl rfl) rfl ⟨_, _, rfl, rfl, rfl⟩ ?_
  all_goals (rw [thereB]; cases hx : findG g (i1, i2) <;> simp_all [resOf]; try rfl)
theorem odd_s {h : Frag} {g : List Nd} {us : List Value} {b b8 : Nat} {v : Val} (h8 : At h b8 0 [.func (.func 63) #[] #[ptr b 0]]) (hb : At h b 0 us) (hg : GraphC 4398046511104 h g us) : PSpec Tryz.prog 65 ([Value.agg (vlc v).toArray] ++ [ptr b8 0]).toArray h (fun _ u => u = .bool (oddB g v)) := by
  obtain ⟨v1, v2, v3, v4⟩ := v
  have hfn := fun id : ID => there_s (id := id) hb hg
  have hcal : callOk Tryz.prog 63 = true := cal rfl
  refine pspec_of (vs := [.agg (vlc (v1, v2, v3, v4)).toArray, ptr b8 0]) Tryz.func65 Tryz.ntmps65 rfl rfl ?_
  (focus (refine Wr ?_; refine Tbx ?_; intro b0_1; refine Tm ?_; refine On ?_; refine Wr ?_; refine Tf ?_; refine Tl ?_; refine Lo m0 ?_; refine Tc ?_; refine Tm ?_; refine Ugs ?_ ?_ <;> intro c0_2 <;> (first | simp [*] at c0_2; done | try simp at c0_2); (focus (refine Ugl ?_; refine L_one (Rd.pers ‹_›) (ty rfl) ?_; refine Ugf ?_; refine Ugl ?_; refine L_sub (Rd.own m0) (ty rfl) rfl ?_; refine S_gc rfl rfl rfl rfl rfl rfl (C_callCv (hfn _) rfl rfl rfl ⟨_, _, rfl, rfl, rfl⟩ hcal ?_); refine S_gq rfl rfl rfl rfl rfl rfl (Q_not rfl rfl) ?_; refine Tp1 ?_; refine Tm ?_; refine On ?_; refine WP_ret ?_)); rotate_left 1; (focus (refine Tn ?_; refine Tn ?_; refine Tn ?_; refine Tn ?_; refine Tn ?_; refine Tp0 ?_; refine Tm ?_; refine On ?_; refine WP_ret ?_)); rotate_left 1))
  all_goals refine pret (.inl rfl) rfl ⟨_, _, rfl, rfl, rfl⟩ ?_
  all_goals (simp_all [resOf, oddB]; try rfl)
theorem safe_s {h : Frag} {a : Value} {vs : List View} (hs : SL h 13 (ViewC 4398046511104) a vs) (sm : Small vs) : PSpec Tryz.prog 25 #[a] h (fun _ v => v = .int .i64 (safeR vs)) := by
  have hlen := sm.len
  obtain ⟨_, hgl, hgf⟩ := sm.graph
  have hrl := roots_len sm
  obtain ⟨pv, cv, rfl⟩ := hs.slice
  refine pspec_ofN (vs := [.slice pv vs.length cv]) Tryz.func25 Tryz.ntmps25 rfl rfl ?_
  (focus (refine Wr ?_; refine Tal ?_; intro b0_1; refine On ?_; refine Wr ?_; refine Tm ?_; refine S_c rfl rfl rfl (C_call (graph_s ‹_› ‹_›) rfl rfl ⟨_, _, rfl, rfl, rfl⟩ (cal rfl) ?_); rintro h0_2 _ l0_2 ⟨_, rfl, pg0_2, qg0_2, rfl, fg0_2⟩; replace hs := hs.up l0_2; refine Tm ?_; refine Tx ?_; refine Tx ?_; refine Tal ?_; intro b0_3; refine Tw u0 ?_; refine Tm ?_; refine On ?_; refine WP_seq ?_; refine Wr ?_; refine Tm ?_; refine Tc ?_; refine On ?_; refine Wc ?_ ?_ <;> intro c0_4 <;> (first | simp [*] at c0_4; done | try simp at c0_4); (focus (refine Wr ?_; refine Tm ?_; refine S_w0 rfl rfl (W_one rfl rfl rfl (ty rfl) u1 rfl rfl rfl ?_); refine On ?_; refine WP_ret ?_; refine then_r ?_)); rotate_left 1; (focus (refine WP_skip ?_; refine then_n ?_; refine Wr ?_; refine Tm ?_; refine S_c rfl rfl rfl (C_call (of_s ‹_›) rfl rfl ⟨_, _, rfl, rfl, rfl⟩ (cal rfl) ?_); rintro h0_5 _ l0_5 ⟨pf0_5, qf0_5, mb0_5, rfl, ff0_5⟩; replace fg0_2 := fg0_2.up l0_5; replace hs := hs.up l0_5; refine Tm ?_; refine S_c rfl rfl rfl (C_call (roots_s ‹_› ‹_›) rfl rfl ⟨_, _, rfl, rfl, rfl⟩ (cal rfl) ?_); rintro h0_6 _ l0_6 ⟨p0_6, q0_6, rfl, f0_6⟩; replace ff0_5 := ff0_5.up l0_6; replace fg0_2 := fg0_2.up l0_6; replace hs := hs.up l0_6; refine Tal ?_; intro b0_7; refine Tw u0 ?_; refine Tm ?_; refine On ?_; refine Wr ?_; refine Tl ?_; refine Lg m1 ?_; refine Tm ?_; refine S_c rfl rfl rfl (C_callF (reach_s ⟨_, _, rfl, by assumption⟩ ‹_› (by omega) (by omega) ‹_›) rfl rfl ⟨_, _, rfl, ⟨_, _, rfl, rfl, rfl⟩, rfl⟩ (cal rfl) ?_); rintro h0_8 m0_8 _ l0_8 ⟨p0_8, q0_8, rfl, o0_8⟩; replace f0_6 := f0_6.up l0_8; replace ff0_5 := ff0_5.up l0_8; replace fg0_2 := fg0_2.up l0_8; replace hs := hs.up l0_8; refine Tm ?_; refine On ?_; refine Wr ?_; refine S_q rfl rfl rfl (Q_makeFunc rfl rfl ⟨_, _, rfl, rfl, rfl⟩) ?_; refine Tal ?_; intro b0_9; refine S_w0 rfl rfl (W_one rfl rfl rfl (ty rfl) u0 rfl rfl rfl ?_); refine On ?_; refine WP_seq ?_; refine Wr ?_; refine Tm ?_; refine Tm ?_; refine S_c rfl rfl rfl (C_buildSlice rfl (elm rfl) (zer rfl) rfl ⟨_, _, _, rfl, rfl, rfl, rfl, ⟨_, _, _, rfl, rfl, rfl, rfl, rfl, rfl⟩, rfl⟩ rfl rfl ?_); intro b0_10)); rotate_left 1))
  · refine nretP [_, _] (List.Sublist.refl _) (.inl rfl) rfl ⟨_, _, _, rfl, Loads_one (Rd.own m1) (ty rfl), rfl, rfl⟩ ?_
    simp only [resOf]; rw [safeR, if_neg c0_4]; rfl
  have hsafe : safeR vs = safe1 vs (graphR vs).1 (reachL (graphR vs).1 (rootsR vs)) (rootsR vs) := by rw [safeR, if_pos c0_4]
  have hlv : (reachL (graphR vs).1 (rootsR vs)).length ≤ 1000000 := Nat.le_trans (reachL_length _ _) hgl
  rw [hsafe]
  generalize hlive : reachL (graphR vs).1 (rootsR vs) = live at *
  generalize hroots : rootsR vs = roots at *
  generalize hgr : (graphR vs).1 = g at *
  (focus (refine OPS_keepM [] [_] _ rfl ?_; rintro h1_k l1_k k1_k; have a1_k := at_of_keep k1_k; clear k1_k; replace ff0_5 := ff0_5.up l1_k; replace hs := hs.up l1_k; replace o0_8 := o0_8.up l1_k; replace f0_6 := f0_6.up l1_k; replace fg0_2 := fg0_2.up l1_k))
  (focus (refine OPS_keepM [] [_] _ rfl ?_; rintro h2_k l2_k k2_k; have a2_k := at_of_keep k2_k; clear k2_k; replace a1_k := a1_k.up l2_k; replace ff0_5 := ff0_5.up l2_k; replace hs := hs.up l2_k; replace o0_8 := o0_8.up l2_k; replace f0_6 := f0_6.up l2_k; replace fg0_2 := fg0_2.up l2_k))
  refine OPS_keepM [] m0_8 _ rfl fun h4 hl4 hm4 => ?_
  have hL : SL h4 2 IDC (.slice p0_8 live.length q0_8) live := o0_8.sl hl4 IDC_mono hm4 (by omega)
  clear o0_8 hm4
  (replace a2_k := a2_k.up hl4; replace a1_k := a1_k.up hl4; replace ff0_5 := ff0_5.up hl4; replace hs := hs.up hl4; replace f0_6 := f0_6.up hl4; replace fg0_2 := fg0_2.up hl4)
  (focus (refine OPS_keepM [] [_] _ rfl ?_; rintro h4_k l4_k k4_k; have a4_k := at_of_keep k4_k; clear k4_k; replace hL := hL.up l4_k; replace a2_k := a2_k.up l4_k; replace a1_k := a1_k.up l4_k; replace ff0_5 := ff0_5.up l4_k; replace hs := hs.up l4_k; replace f0_6 := f0_6.up l4_k; replace fg0_2 := fg0_2.up l4_k))
  (focus (refine OPS_keepM [] [_] _ rfl ?_; rintro h5_k l5_k k5_k; have a5_k := at_of_keep k5_k; clear k5_k; replace a4_k := a4_k.up l5_k; replace hL := hL.up l5_k; replace a2_k := a2_k.up l5_k; replace a1_k := a1_k.up l5_k; replace ff0_5 := ff0_5.up l5_k; replace hs := hs.up l5_k; replace f0_6 := f0_6.up l5_k; replace fg0_2 := fg0_2.up l5_k))
  refine S_c rfl rfl rfl (C_callF (concat_s (ls := [live, roots]) (slb_of_at a1_k (Flat.append (Flat.one rfl rfl ⟨_, _, rfl, hL⟩) (Flat.one rfl rfl ⟨_, _, rfl, f0_6⟩)) (by simp)) (by simp; omega)) rfl rfl ⟨_, _, rfl, rfl, rfl⟩ (cal rfl) ?_)
  rintro _ M _ hl5 ⟨rfl, pa, qa, rfl, hO⟩
  have hcat : [live, roots].flatten = live ++ roots := by simp
  rw [hcat] at hO ⊢
  have hal : (live ++ roots).length ≤ 2000000 := by rw [List.length_append]; omega
  have hs1 : safe1 vs g live roots = if (live ++ roots).any (fun id => !thereB g id) then 6 else safe2 vs g live := by rw [safe1]
  rw [hs1]
  generalize live ++ roots = all at *
  (focus (refine Tlen ?_; refine Tm ?_; refine On ?_; refine WP_block ?_))
  refine WP_keepM [] M _ rfl fun h6 hl6 hm6 => ?_
  have hA : SL h6 2 IDC (.slice pa all.length qa) all := hO.sl hl6 IDC_mono hm6 (by omega)
  clear hO hm6 hs1 hcat hsafe
  (replace a5_k := a5_k.up hl6; replace a4_k := a4_k.up hl6; replace hL := hL.up hl6; replace a2_k := a2_k.up hl6; replace a1_k := a1_k.up hl6; replace ff0_5 := ff0_5.up hl6; replace hs := hs.up hl6; replace f0_6 := f0_6.up hl6; replace fg0_2 := fg0_2.up hl6)
  clear a1_k
  have hfn := fun id : ID => there_s (id := id) a5_k ⟨_, _, rfl, fg0_2⟩
  have hcal : callOk Tryz.prog 63 = true := cal rfl
  (refine WP_loopC (α := Nat) [44, 43, 8, 7, 5, 3, 2, 0] (fun (k : Nat) => all.length - k) (fun (k : Nat) => [(45, .int .i64 (k : Int))]) (fun hh (k : Nat) => hh = h6 ∧ k ≤ all.length ∧ (all.drop k).any (fun id => !thereB g id) = all.any (fun id => !thereB g id)) 0 ⟨_, _, rfl, ⟨_, _, rfl, ⟨_, _, rfl, ⟨_, _, rfl, ⟨_, _, rfl, ⟨_, _, rfl, ⟨_, _, rfl, ⟨_, _, rfl, rfl, rfl⟩, rfl⟩, rfl⟩, rfl⟩, rfl⟩, rfl⟩, rfl⟩, rfl⟩ (by repeat' first | exact trivial | refine ⟨rfl, ?_⟩) ?_ ?_)
  · exact ⟨rfl, Nat.zero_le _, rfl⟩
  rintro h7 k _ ⟨rfl, hk, ht⟩
  by_cases hlt : k < all.length
  · obtain ⟨⟨i1, i2⟩, ei⟩ := get_of hlt
    have hod := any_drop (p := fun id => !thereB g id) ei
    rw [ht] at hod
    (focus (refine Wr ?_; refine Tc ?_; refine On ?_; refine WP_seq ?_; refine Wc ?_ ?_ <;> intro c9_1 <;> (first | simp [*] at c9_1; done | try simp at c9_1); refine WP_skip ?_; refine then_n ?_; refine WP_seq ?_; refine WP_block ?_; refine Wr ?_; refine Ti ?_; refine Tl ?_; refine Le ?_; rintro _ _ _ rfl; refine Tal ?_; intro b9_3; refine Tw u0 ?_; refine On ?_; refine Wr ?_; refine Tl ?_; refine L_one (Rd.pers ‹_›) (ty rfl) ?_; refine Tl ?_; refine Lg m0 ?_; refine S_c rfl rfl rfl (C_callCv (hfn _) rfl rfl rfl ⟨_, _, rfl, rfl, rfl⟩ hcal ?_); refine S_q rfl rfl rfl (Q_not rfl rfl) ?_; refine On ?_; refine Wc ?_ ?_ <;> intro c9_4 <;> (first | simp [*] at c9_4; done | try simp at c9_4); (focus (refine Wr ?_; refine S_w0 rfl rfl (W_one rfl rfl rfl (ty rfl) u1 rfl rfl rfl ?_); refine On ?_; refine WP_ret ?_; refine block_r ?_; refine then_r ?_; refine roundF_r ?_; refine block_r ?_; refine then_r ?_)); rotate_left 1; (focus (refine WP_skip ?_; refine block_n ?_; refine then_n ?_; refine R_region ?_; refine Ta ?_; refine Tm ?_; refine OPS_nil ?_)); rotate_left 1))
    · refine nretP [_, _] (List.Sublist.refl _) (.inl rfl) rfl ⟨_, _, _, rfl, Loads_one (Rd.own m1) (ty rfl), rfl, rfl⟩ ?_
      simp only [resOf]; rw [hod, c9_4]; rfl
    · refine roundF_n (k + 1) (by omega) ⟨rfl, by omega, ?_⟩ (by repeat' first | exact sR _ | exact sA _ _ | exact sN _ | apply s2 | apply s1) (by repeat' first | exact trivial | refine ⟨rfl, ?_⟩)
      rw [hod, c9_4]; rfl
  have hge : k = all.length := by omega
  subst hge
  rw [List.drop_length] at ht
  rw [← ht, List.any_nil]
  clear hfn hcal hA ht
  have hs2 : safe2 vs g live = if live.any (fun id => badNode g ((findG g id).getD zeroN)) then 6 else safe3 vs live := by rw [safe2]
  rw [if_neg (by simp), hs2]
  clear hs2
  (focus (refine Wr ?_; refine Tc ?_; refine On ?_; refine WP_seq ?_; refine Wc ?_ ?_ <;> intro c10_1 <;> (first | simp [*] at c10_1; done | try simp at c10_1); refine WP_exit ?_; refine then_e ?_; refine roundF_e ?_; refine block_e ?_; refine then_n ?_; refine WP_seq ?_; refine Wr ?_; refine Tm ?_; refine Tlen ?_; refine Tm ?_; refine On ?_; refine WP_block ?_))
  (refine WP_loopC (α := Nat) [55, 54, 8, 7, 5, 3, 2, 0] (fun (k : Nat) => live.length - k) (fun (k : Nat) => [(56, .int .i64 (k : Int))]) (fun hh (k : Nat) => le h7 hh ∧ k ≤ live.length ∧ (live.drop k).any (fun id => badNode g ((findG g id).getD zeroN)) = live.any (fun id => badNode g ((findG g id).getD zeroN))) 0 ⟨_, _, rfl, ⟨_, _, rfl, ⟨_, _, rfl, ⟨_, _, rfl, ⟨_, _, rfl, ⟨_, _, rfl, ⟨_, _, rfl, ⟨_, _, rfl, rfl, rfl⟩, rfl⟩, rfl⟩, rfl⟩, rfl⟩, rfl⟩, rfl⟩, rfl⟩ (by repeat' first | exact trivial | refine ⟨rfl, ?_⟩) ?_ ?_)
  · exact ⟨le_refl _, Nat.zero_le _, rfl⟩
  rintro h8 k _ ⟨hl7, hk, ht⟩
  (replace a5_k := a5_k.up hl7; replace a4_k := a4_k.up hl7; replace hL := hL.up hl7; replace a2_k := a2_k.up hl7; replace ff0_5 := ff0_5.up hl7; replace hs := hs.up hl7; replace f0_6 := f0_6.up hl7; replace fg0_2 := fg0_2.up hl7)
  by_cases hlt : k < live.length
  · obtain ⟨⟨i1, i2⟩, ei⟩ := get_of hlt
    have hod := any_drop (p := fun id => badNode g ((findG g id).getD zeroN)) ei
    rw [ht] at hod
    (focus (refine Wr ?_; refine Tc ?_; refine On ?_; refine WP_seq ?_; refine Wc ?_ ?_ <;> intro c13_1 <;> (first | simp [*] at c13_1; done | try simp at c13_1); refine WP_skip ?_; refine then_n ?_; refine WP_seq ?_; refine WP_block ?_; refine Wr ?_; refine Ti ?_; refine Tl ?_; refine Le ?_; rintro _ _ _ rfl; refine Tal ?_; intro b13_3; refine Tw u0 ?_; refine On ?_; refine Wr ?_; refine Tl ?_; refine Lp ?_; refine Tl ?_; refine Lg m0 ?_; refine S_c rfl rfl rfl (C_call (find_s ⟨_, _, rfl, by assumption⟩) rfl rfl ⟨_, _, rfl, ⟨_, _, rfl, rfl, rfl⟩, rfl⟩ (cal rfl) ?_); rintro h13_4 _ l13_4 ⟨vf13_4, rfl, pn13_4, qn13_4, rfl, fn13_4⟩; replace a5_k := a5_k.up l13_4; replace a4_k := a4_k.up l13_4; replace hL := hL.up l13_4; replace a2_k := a2_k.up l13_4; replace ff0_5 := ff0_5.up l13_4; replace hs := hs.up l13_4; replace f0_6 := f0_6.up l13_4; replace fg0_2 := fg0_2.up l13_4; refine Tm ?_; refine Tx ?_; refine Tx ?_; refine Tal ?_; intro b13_5; refine Tw u0 ?_; refine Tm ?_; refine On ?_; refine Wr ?_; refine S_q rfl rfl rfl (Q_makeFunc rfl rfl ⟨_, _, rfl, rfl, rfl⟩) ?_; refine Tm ?_; refine On ?_; refine Wr ?_; refine Tf ?_; refine Tl ?_; refine Lo m0 ?_; refine Tc ?_; refine Tm ?_; refine Ugs ?_ ?_ <;> intro c13_6 <;> (first | simp [*] at c13_6; done | try simp at c13_6); (focus (refine Ugf ?_; refine Ugl ?_; refine Lo m0 ?_; refine Ugm ?_)); rotate_left 1; (focus (refine Tn ?_; refine Tn ?_; refine Tn ?_; refine Tn ?_; refine Tp0 ?_; refine On ?_; refine cond_f rfl ?_; refine WP_skip ?_; refine block_n ?_; refine then_n ?_; refine R_region ?_; refine Ta ?_; refine Tm ?_; refine OPS_nil ?_)); rotate_left 1))
    · refine S_gc rfl rfl rfl rfl rfl rfl (C_callv (hasVal_s (cap := [ptr b0_9 0]) (p := oddB g) fn13_4 (cal rfl) (fun v vs _ _ e => by cases e; exact odd_s a2_k a5_k ⟨_, _, rfl, fg0_2⟩)) rfl rfl ⟨_, _, rfl, ⟨_, _, rfl, rfl, rfl⟩, rfl⟩ (cal rfl) ?_)
      rw [badNode_any c13_6] at hod
      generalize ((findG g (i1, i2)).getD zeroN).fields.any (oddB g) = bb at *
      (focus (refine Tp1 ?_; refine On ?_; refine Wc ?_ ?_ <;> intro c14_1 <;> (first | simp [*] at c14_1; done | try simp at c14_1); (focus (refine Wr ?_; refine S_w0 rfl rfl (W_one rfl rfl rfl (ty rfl) u2 rfl rfl rfl ?_); refine On ?_; refine WP_ret ?_; refine block_r ?_; refine then_r ?_; refine roundF_r ?_; refine block_r ?_; refine then_r ?_)); rotate_left 1; (focus (refine WP_skip ?_; refine block_n ?_; refine then_n ?_; refine R_region ?_; refine Ta ?_; refine Tm ?_; refine OPS_nil ?_)); rotate_left 1))
      · refine nretP [_, _, _] (List.Sublist.refl _) (.inl rfl) rfl ⟨_, _, _, rfl, Loads_one (Rd.own m2) (ty rfl), rfl, rfl⟩ ?_
        simp only [resOf]; rw [hod, c14_1]; rfl
      · refine roundF_n (k + 1) (by omega) ⟨le_trans hl7 l13_4, by omega, ?_⟩ (by repeat' first | exact sR _ | exact sA _ _ | exact sN _ | apply s2 | apply s1) (by repeat' first | exact trivial | refine ⟨rfl, ?_⟩)
        rw [hod, c14_1]; rfl
    · refine roundF_n (k + 1) (by omega) ⟨le_trans hl7 l13_4, by omega, ?_⟩ (by repeat' first | exact sR _ | exact sA _ _ | exact sN _ | apply s2 | apply s1) (by repeat' first | exact trivial | refine ⟨rfl, ?_⟩)
      rw [hod, badNode_weak c13_6]; rfl
  have hge : k = live.length := by omega
  subst hge
  rw [List.drop_length] at ht
  rw [← ht, List.any_nil]
  clear ht
  have hs3 : safe3 vs live = if (flightsOf vs).any (lostF vs) then 6 else safe4 vs live := by rw [safe3]
  rw [if_neg (by simp), hs3]
  clear hs3
  (focus (refine Wr ?_; refine Tc ?_; refine On ?_; refine WP_seq ?_; refine Wc ?_ ?_ <;> intro c15_1 <;> (first | simp [*] at c15_1; done | try simp at c15_1); refine WP_exit ?_; refine then_e ?_; refine roundF_e ?_; refine block_e ?_; refine then_n ?_; refine WP_seq ?_; refine Wr ?_; refine Tl ?_; refine Lp ?_; refine S_c rfl rfl rfl (C_call (flights_s ‹_›) rfl rfl ⟨_, _, rfl, rfl, rfl⟩ (cal rfl) ?_); rintro h15_2 _ l15_2 ⟨bi15_2, rfl, it15_2⟩; replace a5_k := a5_k.up l15_2; replace a4_k := a4_k.up l15_2; replace hL := hL.up l15_2; replace a2_k := a2_k.up l15_2; replace ff0_5 := ff0_5.up l15_2; replace hs := hs.up l15_2; replace f0_6 := f0_6.up l15_2; replace fg0_2 := fg0_2.up l15_2; refine On ?_; refine WP_block ?_))
  refine WP_rangeS [] [] (fun _ : Unit => [(b0_1, cells [.int .i64 0] 28)]) (fun pre hh _ => le h15_2 hh ∧ pre.any (lostF vs) = false)
    (fun e hh L => e = .ret ∧ List.Sublist [(b0_1, cells [.int .i64 6] 28)] L ∧ (flightsOf vs).any (lostF vs) = true) () it15_2 rfl Tryz.func77 (by decide) rfl (by rintro _ _ _ ⟨_, _, rfl, _⟩; rfl) rfl rfl ⟨le_refl _, rfl⟩ ?_ ?_ ?_
  · rintro l pre ⟨v, x⟩ _ h2 _ hl1 ⟨hl2, hpre⟩ hp ⟨us, ws, rfl, hu1, hu2, hu3, hw1, hw2, hw3⟩
    simp only at hu3 hw3
    have hsn : (pre ++ [(v, x)]).any (lostF vs) = (pre.any (lostF vs) || lostF vs (v, x)) := by simp
    have hin : (v, x) ∈ flightsOf vs := hp.subset (by simp)
    (replace it15_2 := it15_2.up hl1; replace a5_k := a5_k.up hl1; replace a4_k := a4_k.up hl1; replace hL := hL.up hl1; replace a2_k := a2_k.up hl1; replace ff0_5 := ff0_5.up hl1; replace hs := hs.up hl1; replace f0_6 := f0_6.up hl1; replace fg0_2 := fg0_2.up hl1)
    obtain ⟨hi, xa, po, qo, qs, qt, pc, qc, pn, qn, pm, qm, xw, xv, pf, qf, pr, qr, xe, xf, rfl, -⟩ := hu3
    obtain ⟨ya, yb, yc, yd, ye, pa, qa, pg, qg, ph, qh, yw, y1, y2, y3, y4, y5, y6, y7, y8, y9, y10, y11, y12, y13, y14, y15, rfl, ha, hfs, hm⟩ := hw3
    dsimp only [parFr]
    (focus (refine Wr ?_; refine Tal ?_; intro b17_1; refine Tw u0 ?_; refine On ?_; refine R_region ?_; refine Tal ?_; intro b17_2; refine Tw u0 ?_; refine On ?_))
    refine ⟨rfl, ?_⟩
    (focus (refine WP_block ?_; refine Wr ?_; refine Tf ?_; refine Tf ?_; refine Tl ?_; refine L_fld2 (Rd.own m0) ?_; refine LV_1 (ty rfl) rfl ?_; refine Tc ?_; refine Tm ?_; refine Ugs ?_ ?_ <;> intro c18_1 <;> (first | simp [*] at c18_1; done | try simp at c18_1); (focus (refine Ugl ?_; refine Lp ?_; refine Ugf ?_; refine Ugl ?_; refine Lo m1 ?_; refine Ugf ?_; refine Ugl ?_; refine Lo m0 ?_; refine Ugf ?_; refine Ugf ?_; refine Ugl ?_; refine L_fld2 (Rd.own m0) ?_; refine LV_1 (ty rfl) rfl ?_; refine S_gc rfl rfl rfl rfl rfl rfl (C_callv (numbered_s ‹_›) rfl rfl ⟨_, _, rfl, ⟨_, _, rfl, ⟨_, _, rfl, ⟨_, _, rfl, rfl, rfl⟩, rfl⟩, rfl⟩, rfl⟩ (cal rfl) ?_); refine S_gq rfl rfl rfl rfl rfl rfl (Q_build rfl (by decide +kernel) (zer rfl) rfl rfl) ?_; refine S_gq rfl rfl rfl rfl rfl rfl (Q_eqI eqID rfl rfl rfl rfl rfl) ?_; refine Tp1 ?_; refine On ?_; refine Wc ?_ ?_ <;> intro c18_2 <;> (first | simp [*] at c18_2; done | try simp at c18_2); (focus (refine Wr ?_; refine S_w0 rfl rfl (W_one rfl rfl rfl (ty rfl) u2 rfl rfl rfl ?_); refine On ?_; refine WP_ret ?_; refine block_r ?_)); rotate_left 1; (focus (refine WP_skip ?_; refine block_n ?_)); rotate_left 1)); rotate_left 2; (focus (refine Tn ?_; refine Tn ?_; refine Tn ?_; refine Tn ?_; refine Tn ?_; refine Tn ?_; refine Tn ?_; refine Tn ?_; refine Tn ?_; refine Tn ?_; refine Tn ?_; refine Tp0 ?_; refine On ?_; refine cond_f rfl ?_; refine WP_skip ?_; refine block_n ?_)); rotate_left 1))
    · refine bodyS_r ⟨rfl, (by repeat' first | exact sR _ | exact sA _ _ | exact sN _ | apply s2 | apply s1), List.any_eq_true.2 ⟨_, hin, ?_⟩⟩
      rw [lostF_zero c18_1]
      exact decide_eq_true (Prod.ext c18_2.1 c18_2.2)
    · refine bodyS_n () ⟨hl2, ?_⟩ (by repeat' first | exact sR _ | exact sA _ _ | exact sN _ | apply s2 | apply s1)
      rw [hsn, hpre, lostF_zero c18_1]
      exact decide_eq_false fun e => c18_2 (congrArg Prod.fst e) (congrArg Prod.snd e)
    · refine bodyS_n () ⟨hl2, ?_⟩ (by repeat' first | exact sR _ | exact sA _ _ | exact sN _ | apply s2 | apply s1)
      rw [hsn, hpre, lostF_other c18_1]; rfl
  · rintro d h2 _ hl1 ⟨hl2, hpre⟩
    (replace it15_2 := it15_2.up hl1; replace a5_k := a5_k.up hl1; replace a4_k := a4_k.up hl1; replace hL := hL.up hl1; replace a2_k := a2_k.up hl1; replace ff0_5 := ff0_5.up hl1; replace hs := hs.up hl1; replace f0_6 := f0_6.up hl1; replace fg0_2 := fg0_2.up hl1)
    rw [if_neg (by rw [hpre]; simp)]
    have hs4 : safe4 vs live = if vs.any (fun v => v.stubs.any (badStub vs live v)) then 11 else 0 := by rw [safe4]
    rw [hs4]
    clear hs4
    (focus (refine block_n ?_; refine then_n ?_; refine WP_seq ?_; refine Wr ?_; refine Tm ?_; refine Tlen ?_; refine Tm ?_; refine On ?_; refine WP_block ?_))
    (refine WP_loopC (α := Nat) [99, 98, 7, 2, 0] (fun (k : Nat) => vs.length - k) (fun (k : Nat) => [(100, .int .i64 (k : Int))]) (fun hh (k : Nat) => le h2 hh ∧ k ≤ vs.length ∧ (vs.drop k).any (fun v => v.stubs.any (badStub vs live v)) = vs.any (fun v => v.stubs.any (badStub vs live v))) 0 ⟨_, _, rfl, ⟨_, _, rfl, ⟨_, _, rfl, ⟨_, _, rfl, ⟨_, _, rfl, rfl, rfl⟩, rfl⟩, rfl⟩, rfl⟩, rfl⟩ (by repeat' first | exact trivial | refine ⟨rfl, ?_⟩) ?_ ?_)
    · exact ⟨le_refl _, Nat.zero_le _, rfl⟩
    rintro h3 k _ ⟨hl3, hk, ht⟩
    (replace it15_2 := it15_2.up hl3; replace a5_k := a5_k.up hl3; replace a4_k := a4_k.up hl3; replace hL := hL.up hl3; replace a2_k := a2_k.up hl3; replace ff0_5 := ff0_5.up hl3; replace hs := hs.up hl3; replace f0_6 := f0_6.up hl3; replace fg0_2 := fg0_2.up hl3)
    by_cases hlt : k < vs.length
    · obtain ⟨v, ev⟩ := get_of hlt
      have hod := any_drop (p := fun v => v.stubs.any (badStub vs live v)) ev
      rw [ht] at hod
      have hst := sm.stubs v (List.mem_of_getElem? ev)
      (focus (refine Wr ?_; refine Tc ?_; refine On ?_; refine WP_seq ?_; refine Wc ?_ ?_ <;> intro c23_1 <;> (first | simp [*] at c23_1; done | try simp at c23_1); refine WP_skip ?_; refine then_n ?_; refine WP_seq ?_; refine WP_block ?_; refine Wr ?_; refine Ti ?_; refine Tl ?_; refine Le ?_; rintro _ _ _ ⟨xi23_2, xa23_2, po23_2, qo23_2, ps23_2, qs23_2, pc23_2, qc23_2, pn23_2, qn23_2, pm23_2, qm23_2, xw23_2, xv23_2, pf23_2, qf23_2, pr23_2, qr23_2, xe23_2, xf23_2, rfl, vo23_2, vs23_2, vc23_2, vn23_2, vm23_2, vf23_2, vr23_2⟩; refine Tal ?_; intro b23_3; refine Tw u0 ?_; refine On ?_; refine Wr ?_; refine Tf ?_; refine Tl ?_; refine Lo m0 ?_; refine Tlen ?_; refine Tm ?_; refine On ?_; refine WP_block ?_))
      (refine WP_loopC (α := Nat) [106, 105, 19, 100, 99, 98, 7, 2, 0] (fun (j : Nat) => v.stubs.length - j) (fun (j : Nat) => [(107, .int .i64 (j : Int))]) (fun hh (j : Nat) => le h3 hh ∧ j ≤ v.stubs.length ∧ (v.stubs.drop j).any (badStub vs live v) = v.stubs.any (badStub vs live v)) 0 ⟨_, _, rfl, ⟨_, _, rfl, ⟨_, _, rfl, ⟨_, _, rfl, ⟨_, _, rfl, ⟨_, _, rfl, ⟨_, _, rfl, ⟨_, _, rfl, ⟨_, _, rfl, rfl, rfl⟩, rfl⟩, rfl⟩, rfl⟩, rfl⟩, rfl⟩, rfl⟩, rfl⟩, rfl⟩ (by repeat' first | exact trivial | refine ⟨rfl, ?_⟩) ?_ ?_)
      · exact ⟨le_refl _, Nat.zero_le _, rfl⟩
      rintro h4 j _ ⟨hl4, hj, ht2⟩
      (replace it15_2 := it15_2.up hl4; replace a5_k := a5_k.up hl4; replace a4_k := a4_k.up hl4; replace hL := hL.up hl4; replace a2_k := a2_k.up hl4; replace ff0_5 := ff0_5.up hl4; replace hs := hs.up hl4; replace f0_6 := f0_6.up hl4; replace fg0_2 := fg0_2.up hl4; replace vo23_2 := vo23_2.up hl4; replace vs23_2 := vs23_2.up hl4; replace vc23_2 := vc23_2.up hl4; replace vn23_2 := vn23_2.up hl4; replace vm23_2 := vm23_2.up hl4; replace vf23_2 := vf23_2.up hl4; replace vr23_2 := vr23_2.up hl4)
      by_cases hlt2 : j < v.stubs.length
      · obtain ⟨x, ex⟩ := get_of hlt2
        have hod2 := any_drop (p := badStub vs live v) ex
        rw [ht2] at hod2
        have hbd := badStub_def vs live v x
        (focus (refine Wr ?_; refine Tc ?_; refine On ?_; refine WP_seq ?_; refine Wc ?_ ?_ <;> intro c26_1 <;> (first | simp [*] at c26_1; done | try simp at c26_1); refine WP_skip ?_; refine then_n ?_; refine WP_seq ?_; refine WP_block ?_; refine Wr ?_; refine Ti ?_; refine Tl ?_; refine Le ?_; rintro _ _ _ ⟨xa26_2, xb26_2, xc26_2, xd26_2, xe26_2, xf26_2, rfl⟩; refine Tal ?_; intro b26_3; refine Tw u0 ?_; refine On ?_; refine WP_seq ?_; refine Wr ?_; refine Tf ?_; refine Tl ?_; refine Lo m0 ?_; refine Tm ?_; refine Ugs ?_ ?_ <;> intro c26_4 <;> (first | simp [*] at c26_4; done | try simp at c26_4); (focus (refine Tn ?_; refine Tn ?_; refine Tp1 ?_; refine Tm ?_; refine Tn ?_; refine Tn ?_; refine Tn ?_; refine Tn ?_; refine Tn ?_; refine Tp1 ?_; refine On ?_; refine cond_t rfl ?_; refine WP_exit ?_; refine then_e ?_; refine block_e ?_; refine then_n ?_; refine R_region ?_; refine Ta ?_; refine Tm ?_; refine OPS_nil ?_)); rotate_left 1; (focus (refine Ugf ?_; refine Ugl ?_; refine Lo m0 ?_; refine Tp0 ?_; refine Tm ?_; refine Ugs ?_ ?_ <;> intro c26_5 <;> (first | simp [*] at c26_5; done | try simp at c26_5); (focus (refine Tn ?_; refine Tn ?_; refine Tn ?_; refine Tn ?_; refine Tn ?_; refine Tp1 ?_; refine On ?_; refine cond_t rfl ?_; refine WP_exit ?_; refine then_e ?_; refine block_e ?_; refine then_n ?_; refine R_region ?_; refine Ta ?_; refine Tm ?_; refine OPS_nil ?_)); rotate_left 1; (focus (refine Ugm ?_; refine Ugf ?_; refine Ugl ?_; refine L_sub (Rd.own m0) (ty rfl) rfl ?_; refine S_gc rfl rfl rfl rfl rfl rfl (C_callv (has_s (x := (_, _)) ‹_›) rfl rfl ⟨_, _, rfl, ⟨_, _, rfl, rfl, rfl⟩, rfl⟩ (cal rfl) ?_); refine S_gq rfl rfl rfl rfl rfl rfl (Q_not rfl rfl) ?_; refine Tp0 ?_; refine On ?_; refine Wc ?_ ?_ <;> intro c26_6 <;> (first | simp [*] at c26_6; done | try simp at c26_6); (focus (refine WP_exit ?_; refine then_e ?_; refine block_e ?_; refine then_n ?_; refine R_region ?_; refine Ta ?_; refine Tm ?_; refine OPS_nil ?_)); rotate_left 1; (focus (refine WP_skip ?_; refine then_n ?_; refine Wr ?_; refine Tm ?_; refine Tf ?_; refine Tl ?_; refine Lo m1 ?_; refine Tf ?_; refine Tl ?_; refine L_sub (Rd.own m0) (ty rfl) rfl ?_; refine S_c rfl rfl rfl (C_call (follow_s ‹_› (by omega)) rfl rfl ⟨_, _, rfl, ⟨_, _, rfl, ⟨_, _, rfl, rfl, rfl⟩, rfl⟩, rfl⟩ (cal rfl) ?_); rintro h26_7 _ l26_7 ⟨p26_7, q26_7, rfl, f26_7⟩; replace it15_2 := it15_2.up l26_7; replace a5_k := a5_k.up l26_7; replace a4_k := a4_k.up l26_7; replace hL := hL.up l26_7; replace a2_k := a2_k.up l26_7; replace ff0_5 := ff0_5.up l26_7; replace hs := hs.up l26_7; replace f0_6 := f0_6.up l26_7; replace fg0_2 := fg0_2.up l26_7; replace vo23_2 := vo23_2.up l26_7; replace vs23_2 := vs23_2.up l26_7; replace vc23_2 := vc23_2.up l26_7; replace vn23_2 := vn23_2.up l26_7; replace vm23_2 := vm23_2.up l26_7; replace vf23_2 := vf23_2.up l26_7; replace vr23_2 := vr23_2.up l26_7; refine Tm ?_; refine Tx ?_; refine Tx ?_; refine Tm ?_; refine Tm ?_; refine On ?_; refine Wr ?_; refine Tm ?_; refine Tc ?_; refine On ?_; refine Wc ?_ ?_ <;> intro c26_8 <;> (first | simp [*] at c26_8; done | try simp at c26_8); (focus (refine Wr ?_; refine S_w0 rfl rfl (W_one rfl rfl rfl (ty rfl) u2 rfl rfl rfl ?_); refine On ?_; refine WP_ret ?_; refine block_r ?_; refine then_r ?_; refine roundF_r ?_; refine block_r ?_; refine block_r ?_; refine then_r ?_; refine roundF_r ?_; refine block_r ?_; refine then_r ?_)); rotate_left 1; (focus (refine WP_skip ?_; refine block_n ?_; refine then_n ?_; refine R_region ?_; refine Ta ?_; refine Tm ?_; refine OPS_nil ?_)); rotate_left 1)); rotate_left 2)); rotate_left 3)); rotate_left 4))
        · rw [c26_4] at hbd
          refine roundF_n (j + 1) (by omega) ⟨hl4, by omega, ?_⟩ (by repeat' first | exact sR _ | exact sA _ _ | exact sN _ | apply s2 | apply s1) (by repeat' first | exact trivial | refine ⟨rfl, ?_⟩)
          rw [hod2, hbd]; rfl
        · rw [c26_4, c26_5] at hbd
          refine roundF_n (j + 1) (by omega) ⟨hl4, by omega, ?_⟩ (by repeat' first | exact sR _ | exact sA _ _ | exact sN _ | apply s2 | apply s1) (by repeat' first | exact trivial | refine ⟨rfl, ?_⟩)
          rw [hod2, hbd]; rfl
        · rw [c26_4, c26_5, decide_eq_false (p := x.id ∈ live) c26_6] at hbd
          refine roundF_n (j + 1) (by omega) ⟨hl4, by omega, ?_⟩ (by repeat' first | exact sR _ | exact sA _ _ | exact sN _ | apply s2 | apply s1) (by repeat' first | exact trivial | refine ⟨rfl, ?_⟩)
          rw [hod2, hbd]; rfl
        · rw [c26_4, c26_5, decide_eq_true (p := x.id ∈ live) c26_6, decide_eq_true (p := (followOf vs v.machine x.id).2 ≠ 0) c26_8] at hbd
          refine nretP [_, _, _] (List.Sublist.refl _) (.inl rfl) rfl ⟨_, _, _, rfl, Loads_one (Rd.own m2) (ty rfl), rfl, rfl⟩ ?_
          simp only [resOf]; rw [hod, hod2, hbd]; rfl
        · rw [c26_4, c26_5, decide_eq_true (p := x.id ∈ live) c26_6, decide_eq_false (p := (followOf vs v.machine x.id).2 ≠ 0) (fun e => e c26_8)] at hbd
          refine roundF_n (j + 1) (by omega) ⟨le_trans hl4 l26_7, by omega, ?_⟩ (by repeat' first | exact sR _ | exact sA _ _ | exact sN _ | apply s2 | apply s1) (by repeat' first | exact trivial | refine ⟨rfl, ?_⟩)
          rw [hod2, hbd]; rfl
      have hge : j = v.stubs.length := by omega
      subst hge
      rw [List.drop_length] at ht2
      (focus (refine Wr ?_; refine Tc ?_; refine On ?_; refine WP_seq ?_; refine Wc ?_ ?_ <;> intro c27_1 <;> (first | simp [*] at c27_1; done | try simp at c27_1); refine WP_exit ?_; refine then_e ?_; refine roundF_e ?_; refine block_e ?_; refine block_n ?_; refine then_n ?_; refine R_region ?_; refine Ta ?_; refine Tm ?_; refine OPS_nil ?_))
      refine roundF_n (k + 1) (by omega) ⟨le_trans hl3 hl4, by omega, ?_⟩ (by repeat' first | exact sR _ | exact sA _ _ | exact sN _ | apply s2 | apply s1) (by repeat' first | exact trivial | refine ⟨rfl, ?_⟩)
      rw [hod, ← ht2]; rfl
    have hge : k = vs.length := by omega
    subst hge
    rw [List.drop_length] at ht
    rw [← ht, List.any_nil, if_neg (by simp)]
    (focus (refine Wr ?_; refine Tc ?_; refine On ?_; refine WP_seq ?_; refine Wc ?_ ?_ <;> intro c28_1 <;> (first | simp [*] at c28_1; done | try simp at c28_1); refine WP_exit ?_; refine then_e ?_; refine roundF_e ?_; refine block_e ?_; refine then_n ?_; refine Wr ?_; refine S_w0 rfl rfl (W_one rfl rfl rfl (ty rfl) u0 rfl rfl rfl ?_); refine On ?_; refine WP_ret ?_))
    refine nretP [_] (List.Sublist.refl _) (.inl rfl) rfl ⟨_, _, _, rfl, Loads_one (Rd.own m0) (ty rfl), rfl, rfl⟩ ?_
    rfl
  · rintro d e h2 L2 hl1 ⟨rfl, hsub, hany⟩ _
    refine block_r (then_r ?_)
    refine nretP [(b0_1, cells [.int .i64 6] 28)] (hsub.append (List.Sublist.refl _)) (.inl rfl) rfl ⟨_, _, _, rfl, Loads_one (Rd.own m0) (ty rfl), rfl, rfl⟩ ?_
    simp only [resOf]; rw [if_pos hany]
end Go.Proofs.YtfhoecgiahpddaaGreat
/-
  CONTRACTS: the reference's Safe (refmeshref55.Safe).
-/
set_option linter.all false
namespace Go.Proofs.YtfhoecgiahpddaaGreat
open Go.Mesh Go.RowKit
set_option maxRecDepth 100000
set_option linter.unusedVariables false
set_option maxHeartbeats 4000000
attribute [local irreducible] WP OPS ANY ANYo LG LV FSpec PSpec QOP OPc OPw thenQ blockQ roundQ roundF retQ retM Rd At SLB OS cmpI orI cmpID namedB valB nodeB kindB validG valAux idxI findG zeroV viewOf vwAt idxOf recv flyB scionOf moveOf numberedOf idOf valueOf mget mput localB carriedB msgB sizesB smallV fewB stubOf followF followOf flOf flightsOf flPre setL minusL compactL putI mergeN insN insAll unionR NMap Coll retN bodyS GMap Dfs refsV refsOf reachL movedOf movedG graphParts graphR isMove flightIDs mailIDs viewIDs rawRoots rootsR refFl refMoved refPut keepL Bfs reachR deadN viewObjs garbageOf garbageR objsL refView1 refRaw routeOf goesB thereB oddB badNode lostF badStub safe1 safe2 safe3 safe4 safeR
theorem refsOf_len' (n : Nd) : (refsOf n).length ≤ n.fields.length := by
  rw [refsOf]; split
  · simp
  · exact refsV_length _
/-- what must be there, as the reference lists it -/
def safeAll (g : List Nd) (live roots : List ID) : List ID := (live ++ roots) ++ live.flatMap fun id => refsOf ((findG g id).getD zeroN)
theorem refsV_any (g : List Nd) : ∀ fs : List Val, (refsV fs).any (fun id => !thereB g id) = fs.any (oddB g)
  | [] => by rw [refsV_nil]; rfl
  | x :: fs => by
    have h := refsV_any g fs
    rw [refsV] at h ⊢
    rw [List.any_cons, ← h, oddB]
    by_cases hx : x.1 = 2 <;> simp [hx]
theorem badNode_refs (g : List Nd) (n : Nd) : badNode g n = (refsOf n).any fun id => !thereB g id := by
  by_cases h : n.kind = 2
  · rw [badNode_weak h, refsOf_weak h]; rfl
  · rw [badNode_any h, refsOf_plain h, refsV_any]
theorem safeAll_any (g : List Nd) (live roots : List ID) : (safeAll g live roots).any (fun id => !thereB g id) = ((live ++ roots).any (fun id => !thereB g id) || live.any fun id => badNode g ((findG g id).getD zeroN)) := by
  rw [safeAll, List.any_append, List.any_flatMap]
  congr 1
  congr 1
  funext id
  rw [badNode_refs]
theorem safe1_all (vs : List View) (g : List Nd) (live roots : List ID) : safe1 vs g live roots = if (safeAll g live roots).any (fun id => !thereB g id) then 6 else safe3 vs live := by
  rw [safeAll_any, safe1, safe2]
  by_cases h1 : (live ++ roots).any (fun id => !thereB g id) = true
  · rw [if_pos h1, h1]; rfl
  · rw [if_neg h1]
    rw [Bool.not_eq_true] at h1
    rw [h1, Bool.false_or]
/-- a delivery that is lost -/
def lostB (vs : List View) (v : View) (x : Flight) : Bool := decide (x.msg.kind = 0) && (flyB vs v x && decide (numberedOf vs v.machine x.to x.msg.number = (0, 0)))
theorem lost_any (vs : List View) : (flightsOf vs).any (lostF vs) = vs.any fun v => v.flights.any (lostB vs v) := by
  rw [flightsOf, List.any_flatMap]
  congr 1
  funext v
  rw [flOf, List.any_map, List.any_filter]
  congr 1
  funext x
  simp only [Function.comp, lostF, lostB]
  cases flyB vs v x <;> simp
theorem lostB_zero {vs : List View} {v : View} {x : Flight} (h : x.msg.kind = 0) : lostB vs v x = (flyB vs v x && decide (numberedOf vs v.machine x.to x.msg.number = (0, 0))) := by rw [lostB, decide_eq_true h]; rfl
theorem lostB_other {vs : List View} {v : View} {x : Flight} (h : ¬ x.msg.kind = 0) : lostB vs v x = false := by rw [lostB, decide_eq_false h]; rfl
theorem safe3_def (vs : List View) (live : List ID) : safe3 vs live = if (vs.any fun v => v.flights.any (lostB vs v)) then 6 else safe4 vs live := by rw [safe3, lost_any]
theorem safe4_def (vs : List View) (live : List ID) : safe4 vs live = if vs.any (fun v => v.stubs.any (badStub vs live v)) then 11 else 0 := by rw [safe4]
theorem any_drop' {α : Type} {p : α → Bool} {l : List α} {k : Nat} {x : α} (hx : l[k]? = some x) : (l.drop k).any p = (p x || (l.drop (k + 1)).any p) := by rw [drop_get hx, List.any_cons]
theorem getD_fields {g : List Nd} (h : ∀ n, n ∈ g → n.fields.length ≤ 1000) (id : ID) : ((findG g id).getD zeroN).fields.length ≤ 1000 := by
  cases hf : findG g id with
  | none => simp [zeroN]
  | some n => exact h n (findG_some hf).1
theorem refsAll_len {g : List Nd} (h : ∀ n, n ∈ g → n.fields.length ≤ 1000) (l : List ID) : (l.flatMap fun id => refsOf ((findG g id).getD zeroN)).length ≤ l.length * 1000 :=
  flatMap_le _ 1000 l fun id _ => Nat.le_trans (refsOf_len' _) (getD_fields h id)
theorem thereB_some {g : List Nd} {id : ID} {n : Nd} (h : findG g id = some n) : thereB g id = decide (n.kind ≠ 3) := by rw [thereB, h]
theorem thereB_eq (g : List Nd) (id : ID) : thereB g id = ((findG g id).isSome && decide (((findG g id).getD zeroN).kind ≠ 3)) := by
  rw [thereB]; cases findG g id <;> rfl
theorem thereB_none {g : List Nd} {id : ID} (h : findG g id = none) : thereB g id = false := by rw [thereB, h]
attribute [local irreducible] safeAll lostB
theorem refSafe_s {h : Frag} {a : Value} {vs : List View} (hs : SL h 13 (ViewC 4398046511104) a vs) (sm : Small vs) : PSpec Tryz.prog 26 #[a] h (fun _ v => v = .int .i64 (safeR vs)) := by
  have hlen := sm.len
  obtain ⟨_, hgl, hgf⟩ := sm.graph
  have hrl := roots_len sm
  obtain ⟨pv, cv, rfl⟩ := hs.slice
  refine pspec_of (vs := [.slice pv vs.length cv]) Tryz.func26 Tryz.ntmps26 rfl rfl ?_
  (focus (refine Wr ?_; refine Tm ?_; refine On ?_; refine Wr ?_; refine Tm ?_; refine S_c rfl rfl rfl (C_call (refGraph_s ‹_› ‹_›) rfl rfl ⟨_, _, rfl, rfl, rfl⟩ (cal rfl) ?_); rintro h0_1 _ l0_1 ⟨_, rfl, pg0_1, qg0_1, rfl, fg0_1⟩; replace hs := hs.up l0_1; refine Tm ?_; refine Tx ?_; refine Tx ?_; refine Tal ?_; intro b0_2; refine Tw u0 ?_; refine Tm ?_; refine On ?_; refine WP_seq ?_; refine Wr ?_; refine Tm ?_; refine Tc ?_; refine On ?_; refine Wc ?_ ?_ <;> intro c0_3 <;> (first | simp [*] at c0_3; done | try simp at c0_3); (focus (refine Wr ?_; refine Tm ?_; refine Tm ?_; refine On ?_; refine WP_ret ?_; refine then_r ?_)); rotate_left 1; (focus (refine WP_skip ?_; refine then_n ?_)); rotate_left 1))
  · refine pret (.inl rfl) rfl ⟨_, _, rfl, rfl, rfl⟩ ?_
    simp only [resOf]; rw [safeR, if_neg c0_3]; rfl
  have hsafe : safeR vs = safe1 vs (graphR vs).1 (reachL (graphR vs).1 (rootsR vs)) (rootsR vs) := by rw [safeR, if_pos c0_3]
  rw [safe1_all] at hsafe
  have hll := reachL_length (graphR vs).1 (rootsR vs)
  (focus (refine WP_keepM [] [_] _ rfl ?_; rintro h1_k l1_k k1_k; have a1_k := at_of_keep k1_k; clear k1_k; replace fg0_1 := fg0_1.up l1_k; replace hs := hs.up l1_k))
  (focus (refine WP_seq ?_; refine R_draw (n := 5) mixed rfl ?_; refine Va 0 ?_; refine Vl 1 ?_; refine Lp ?_; refine Va 1 ?_; refine Vm 3 ?_; refine Va 2 ?_; refine A_c (m' := 7) rfl rfl rfl rfl (by decide +kernel) (C_call (refRoots_s ‹_› ‹_›) rfl rfl ⟨_, _, rfl, rfl, rfl⟩ (cal rfl) ?_); rintro h2_1 _ l2_1 ⟨p2_1, q2_1, rfl, f2_1, g2_1⟩; replace a1_k := a1_k.up l2_1; replace fg0_1 := fg0_1.up l2_1; replace hs := hs.up l2_1; refine Va 3 ?_; refine A_c (m' := 15) rfl rfl rfl rfl (by decide +kernel) (C_call (refReach_s ⟨_, _, rfl, by assumption⟩ ‹_› (by omega) (by omega) ‹_›) rfl rfl ⟨_, _, rfl, ⟨_, _, rfl, rfl, rfl⟩, rfl⟩ (cal rfl) ?_); rintro h2_2 _ l2_2 ⟨p2_2, q2_2, rfl, f2_2⟩; replace f2_1 := f2_1.up l2_2; replace a1_k := a1_k.up l2_2; replace fg0_1 := fg0_1.up l2_2; replace hs := hs.up l2_2; refine Va 4 ?_; refine Vs 31 ?_; refine A_done (by decide +kernel) ?_; refine then_n ?_; refine Wr ?_; refine S_c rfl rfl rfl (C_buildSlice rfl (elm rfl) (zer rfl) rfl rfl rfl rfl ?_); intro b2_3; refine Tm ?_; refine S_w rfl rfl rfl (W_appS [] _ (OS.lit0 _ _ _ _ _) ‹_› rfl rfl rfl rfl rfl rfl (elm rfl) (zer rfl) rfl rfl (by (try simp only [lA]); omega) (by (try simp only [lA]); omega) ?_); rintro p2_4 q2_4 m2_4 o2_4; refine Tm ?_; refine S_c rfl rfl rfl (C_call (refRoots_s ‹_› ‹_›) rfl rfl ⟨_, _, rfl, rfl, rfl⟩ (cal rfl) ?_); rintro h2_5 _ l2_5 ⟨p2_5, q2_5, rfl, f2_5, g2_5⟩; replace f2_2 := f2_2.up l2_5; replace f2_1 := f2_1.up l2_5; replace a1_k := a1_k.up l2_5; replace fg0_1 := fg0_1.up l2_5; replace hs := hs.up l2_5; replace o2_4 := o2_4.up l2_5; refine S_w rfl rfl rfl (W_appS [] _ o2_4 ‹_› rfl rfl rfl rfl rfl rfl (elm rfl) (zer rfl) rfl rfl (by (try simp only [lA]); omega) (by (try simp only [lA]); omega) ?_); rintro p2_6 q2_6 m2_6 o2_6; refine Tm ?_; refine On ?_; refine WP_seq ?_; refine Wr ?_; refine Tm ?_; refine On ?_; refine WP_block ?_))
  generalize hlv : reachL (graphR vs).1 (rootsR vs) = live at *
  (refine WP_loopF (α := Nat × List ID × Option Addr × Nat × Hp) [5, 3, 0] (fun (s : Nat × List ID × Option Addr × Nat × Hp) => live.length - s.1) (fun (s : Nat × List ID × Option Addr × Nat × Hp) => s.2.2.2.2 ++ []) (fun (s : Nat × List ID × Option Addr × Nat × Hp) => [(7, .int .i64 (s.1 : Int)), (6, .slice s.2.2.1 s.2.1.length s.2.2.2.1)]) (fun hh (s : Nat × List ID × Option Addr × Nat × Hp) => hh = h2_5 ∧ s.1 ≤ live.length ∧ s.2.1 = (live ++ rootsR vs) ++ (live.take s.1).flatMap (fun id => refsOf ((findG (graphR vs).1 id).getD zeroN)) ∧ OS h2_5 35 2 IDC (.slice s.2.2.1 s.2.1.length s.2.2.2.1) s.2.1 s.2.2.2.2) (0, live ++ rootsR vs, p2_6, q2_6, m2_6) ⟨_, _, rfl, ⟨_, _, rfl, ⟨_, _, rfl, rfl, rfl⟩, rfl⟩, rfl⟩ ?_ (by repeat' first | exact sR _ | exact sA _ _ | exact sN _ | apply s2 | apply s1) (by repeat' first | exact trivial | refine ⟨rfl, ?_⟩) ?_)
  · exact ⟨rfl, Nat.zero_le _, by simp, o2_6⟩
  clear o2_6
  rintro h3 ⟨i, all, p, c, M⟩ _ ⟨rfl, hi, hall, hO⟩
  simp only at hi hall hO
  dsimp only
  have hal : all.length ≤ live.length + (rootsR vs).length + i * 1000 := by
    have := refsAll_len hgf (live.take i)
    rw [List.length_take] at this
    have h2 : min i live.length * 1000 ≤ i * 1000 := Nat.mul_le_mul_right _ (Nat.min_le_left _ _)
    rw [hall, List.length_append, List.length_append]; omega
  have hib : i * 1000 ≤ 1000000000 := by omega
  by_cases hlt : i < live.length
  · obtain ⟨⟨x1, x2⟩, ex⟩ := get_of hlt
    have hft := flatMap_take (fun id => refsOf ((findG (graphR vs).1 id).getD zeroN)) ex
    have hgd := getD_fields hgf (x1, x2)
    (focus (refine WP_seq ?_; refine Wr ?_; refine Tm ?_; refine Tm ?_; refine Tlen ?_; refine Tc ?_; refine On ?_; refine Wc ?_ ?_ <;> intro c4_1 <;> (first | simp [*] at c4_1; done | try simp at c4_1); refine WP_skip ?_; refine then_n ?_; refine WP_seq ?_; refine WP_block ?_))
    refine WP_cutS (α := Nat × Option Addr × Nat) (fun hh s => hh = h3 ∧ SL h3 4 ValC (.slice s.2.1 ((findG (graphR vs).1 (x1, x2)).getD zeroN).fields.length s.2.2) ((findG (graphR vs).1 (x1, x2)).getD zeroN).fields)
      (fun s => (s.1, cells [.int .i64 ((findG (graphR vs).1 (x1, x2)).getD zeroN).id.1, .int .i64 ((findG (graphR vs).1 (x1, x2)).getD zeroN).id.2, .int .i64 ((findG (graphR vs).1 (x1, x2)).getD zeroN).kind, .int .i64 ((findG (graphR vs).1 (x1, x2)).getD zeroN).cls, .slice s.2.1 ((findG (graphR vs).1 (x1, x2)).getD zeroN).fields.length s.2.2] 38) :: (M ++ []))
      (fun s => [(8, ptr s.1 0), (7, .int .i64 (i : Int)), (6, .slice p all.length c), (5, .slice p2_2 live.length q2_2), (3, ptr b0_2 0), (0, .slice pv vs.length cv)]) ?_ ?_
    · (focus (refine R_draw (n := 12) mixed rfl ?_; refine Va 0 ?_; refine Vl 1 ?_; refine Lp ?_; refine Va 1 ?_; refine Vm 3 ?_; refine Va 2 ?_; refine Vm 7 ?_; refine Va 3 ?_; refine A_q (m' := 15) rfl rfl rfl (Q_indexS ‹_› ‹_› rfl rfl rfl (elm rfl) rfl) rfl (fbL (by decide +kernel)) ?_; refine Va 4 ?_; refine Vl 31 ?_; refine Le ?_; rintro _ _ _ rfl; refine A_two 5 9 (mi := 63) (mj := 543) rfl rfl (by decide +kernel) rfl rfl ?_ ?_; (focus (refine T_at rfl ?_; refine T_cO rfl rfl rfl (C_call0 (refFind_s ⟨_, _, rfl, by assumption⟩) rfl rfl ⟨_, _, rfl, ⟨_, _, rfl, rfl, rfl⟩, rfl⟩ (cal rfl) ?_); rintro _ ⟨cv5_2, rfl, cl5_2, co5_2, ⟨pn5_2, qn5_2, rfl, fn5_2⟩⟩; refine Va 6 ?_; refine Vm 127 ?_; refine Va 7 ?_; refine A_q (m' := 255) rfl rfl rfl (Q_extract rfl rfl rfl) rfl (fbL (by decide +kernel)) ?_; refine Va 8 ?_; refine A_qp (m' := 511) rfl rfl rfl (Q_extract rfl rfl rfl) rfl (fpL (by decide +kernel)) ?_; refine Va 9 ?_; refine A_c (m' := 1023) rfl rfl rfl rfl (by decide +kernel) (C_alloc rfl (zer rfl) ?_); intro b5_3; refine Va 10 ?_; refine A_w0 (m' := 2047) rfl rfl rfl rfl (by decide +kernel) (W_all rfl rfl rfl (ty rfl) u0 (by first | rfl | assumption) (by first | rfl | assumption) (by first | rfl | assumption | exact ones_sub ‹_› _ _) ?_); refine Va 11 ?_; refine Vs 4095 ?_; refine A_done (by decide +kernel) ?_)); rotate_left 1; (focus (refine T_at rfl ?_; refine T_cO rfl rfl rfl (C_alloc rfl (zer rfl) ?_); intro b5_4; refine Va 5 ?_; refine A_c (m' := 575) rfl rfl rfl rfl (by decide +kernel) (C_call0 (refFind_s ⟨_, _, rfl, by assumption⟩) rfl rfl ⟨_, _, rfl, ⟨_, _, rfl, rfl, rfl⟩, rfl⟩ (cal rfl) ?_); rintro _ ⟨cv5_5, rfl, cl5_5, co5_5, ⟨pn5_5, qn5_5, rfl, fn5_5⟩⟩; refine Va 6 ?_; refine Vm 639 ?_; refine Va 7 ?_; refine A_q (m' := 767) rfl rfl rfl (Q_extract rfl rfl rfl) rfl (fbL (by decide +kernel)) ?_; refine Va 8 ?_; refine A_qp (m' := 1023) rfl rfl rfl (Q_extract rfl rfl rfl) rfl (fpL (by decide +kernel)) ?_; refine Va 10 ?_; refine A_w0 (m' := 2047) rfl rfl rfl rfl (by decide +kernel) (W_all rfl rfl rfl (ty rfl) u0 (by first | rfl | assumption) (by first | rfl | assumption) (by first | rfl | assumption | exact ones_sub ‹_› _ _) ?_); refine Va 11 ?_; refine Vs 4095 ?_; refine A_done (by decide +kernel) ?_)); rotate_left 1))
      · exact ⟨rfl, rfl, (b5_3, pn5_2, qn5_2), ⟨rfl, fn5_2⟩, (by repeat' first | exact sR _ | exact sA _ _ | exact sN _ | apply s2 | apply s1), (by repeat' first | exact trivial | refine ⟨rfl, ?_⟩)⟩
      · exact ⟨rfl, rfl, (b5_4, pn5_5, qn5_5), ⟨rfl, fn5_5⟩, (by repeat' first | exact sR _ | exact sA _ _ | exact sN _ | apply s2 | apply s1), (by repeat' first | exact trivial | refine ⟨rfl, ?_⟩)⟩
    rintro h4 ⟨b, pn, qn⟩ _ ⟨rfl, hN⟩
    simp only at hN
    dsimp only
    generalize (findG (graphR vs).1 (x1, x2)).getD zeroN = nd at hft hgd hN ⊢
    obtain ⟨⟨n1, n2⟩, kd, cl, fs⟩ := nd
    simp only at hN hgd ⊢
    (focus (refine Wr ?_; refine Tm ?_; refine On ?_; refine WP_block ?_))
    (refine WP_loopM (α := Nat × List ID × Option Addr × Nat × Hp) [_]  _ [8, 7, 5, 3, 0] (fun (s : Nat × List ID × Option Addr × Nat × Hp) => fs.length - s.1) (fun (s : Nat × List ID × Option Addr × Nat × Hp) =>  s.2.2.2.2) (fun (s : Nat × List ID × Option Addr × Nat × Hp) => [(10, .int .i64 (s.1 : Int)), (6, .slice s.2.2.1 s.2.1.length s.2.2.2.1)]) (fun hh (s : Nat × List ID × Option Addr × Nat × Hp) => hh = h4 ∧ s.1 ≤ fs.length ∧ s.2.1 = all ++ refsOf ⟨(n1, n2), kd, cl, fs.take s.1⟩ ∧ OS h4 35 2 IDC (.slice s.2.2.1 s.2.1.length s.2.2.2.1) s.2.1 s.2.2.2.2) (0, all, p, c, M) rfl ⟨_, _, rfl, ⟨_, _, rfl, ⟨_, _, rfl, ⟨_, _, rfl, ⟨_, _, rfl, rfl, rfl⟩, rfl⟩, rfl⟩, rfl⟩, rfl⟩ (by repeat' first | exact trivial | refine ⟨rfl, ?_⟩) ?_ ?_)
    · refine ⟨rfl, Nat.zero_le _, ?_, hO⟩
      simp only; rw [List.take_zero, refsOf_empty, List.append_nil]
    clear hO
    rintro h5 ⟨k, td, pt2, ct2, M2⟩ _ ⟨rfl, hk, htd, hT⟩
    simp only at hk htd hT
    dsimp only
    have htdl : td.length ≤ all.length + k := by
      have := refsOf_len (n1, n2) kd cl (fs.take k)
      rw [List.length_take] at this
      rw [htd, List.length_append]; omega
    by_cases hw : kd = 2
    · rw [refsOf_weak hw, List.append_nil] at htd hft
      subst htd
      (focus (refine WP_seq ?_; refine Wr ?_; refine Tm ?_; refine Tf ?_; refine Tl ?_; refine Lo m0 ?_; refine Tlen ?_; refine Tc ?_; refine Tm ?_; refine Ugs ?_ ?_ <;> intro c8_1 <;> (first | simp [*] at c8_1; done | try simp at c8_1); (focus (refine Ugf ?_; refine Ugl ?_; refine Lo m0 ?_; refine Ugc ?_; refine Tp1 ?_; refine On ?_; refine Wc ?_ ?_ <;> intro c8_2 <;> (first | simp [*] at c8_2; done | try simp at c8_2); refine WP_exit ?_; refine then_e ?_; refine roundF_e ?_; refine block_e ?_; refine block_n ?_; refine then_n ?_; refine R_region ?_; refine Tm ?_; refine Ta ?_; refine Tm ?_; refine OPS_nil ?_)); rotate_left 1; (focus (refine Tn ?_; refine Tn ?_; refine Tn ?_; refine Tp0 ?_; refine On ?_; refine cond_f rfl ?_; refine WP_exit ?_; refine then_e ?_; refine roundF_e ?_; refine block_e ?_; refine block_n ?_; refine then_n ?_; refine R_region ?_; refine Tm ?_; refine Ta ?_; refine Tm ?_; refine OPS_nil ?_)); rotate_left 1))
      all_goals refine roundF_n (i + 1, td, pt2, ct2, M2) (by simp only; omega) ⟨rfl, by simp only; omega, ?_, hT⟩ (by repeat' first | exact sR _ | exact sA _ _ | exact sN _ | apply s2 | apply s1) (by repeat' first | exact trivial | refine ⟨rfl, ?_⟩)
      all_goals (simp only; rw [hft]; exact hall)
    by_cases hlt2 : k < fs.length
    · obtain ⟨⟨v1, v2, v3, v4⟩, ev⟩ := get_of hlt2
      have htk := refsV_take ev
      rw [refsOf_plain hw] at htd
      simp only at htd
      (focus (refine WP_seq ?_; refine Wr ?_; refine Tm ?_; refine Tf ?_; refine Tl ?_; refine Lo m0 ?_; refine Tlen ?_; refine Tc ?_; refine Tm ?_; refine Ugs ?_ ?_ <;> intro c9_1 <;> (first | simp [*] at c9_1; done | try simp at c9_1); refine Ugf ?_; refine Ugl ?_; refine Lo m0 ?_; refine Ugc ?_; refine Tp1 ?_; refine On ?_; refine Wc ?_ ?_ <;> intro c9_2 <;> (first | simp [*] at c9_2; done | try simp at c9_2); refine WP_skip ?_; refine then_n ?_; refine WP_seq ?_; refine WP_block ?_; refine Wr ?_; refine Tf ?_; refine Tl ?_; refine Lo m0 ?_; refine Tm ?_; refine Ti ?_; refine Tf ?_; refine Tl ?_; refine L_elF ‹_› ‹_› ?_; rintro _ _ _ rfl; refine LV_1 (ty rfl) rfl ?_; refine Tc ?_; refine On ?_; refine Wc ?_ ?_ <;> intro c9_4 <;> (first | simp [*] at c9_4; done | try simp at c9_4); (focus (refine R_region ?_; refine Tm ?_; refine Tf ?_; refine Tl ?_; refine Lo m0 ?_; refine Tm ?_; refine Ti ?_; refine Tf ?_; refine Tl ?_; refine L_elF ‹_› ‹_› ?_; rintro _ _ _ rfl; refine LV_a (ty rfl) rfl ?_; refine S_c rfl rfl rfl (C_buildSlice rfl (elm rfl) (zer rfl) rfl ⟨_, _, _, rfl, rfl, rfl, rfl, rfl, rfl⟩ rfl rfl ?_); intro b9_6; refine S_w rfl rfl rfl (W_app1 [_] _ hT rfl rfl rfl rfl rfl rfl (elm rfl) (zer rfl) rfl rfl rfl rfl rfl (by (try simp only [lA]); omega) (by (try simp only [lA]); omega) ?_); rintro p9_7 q9_7 m9_7 o9_7; refine Tm ?_; refine OPS_nil ?_; refine block_n ?_; refine then_n ?_; refine R_region ?_; refine Tm ?_; refine Ta ?_; refine Tm ?_; refine OPS_nil ?_)); rotate_left 1; (focus (refine WP_skip ?_; refine block_n ?_; refine then_n ?_; refine R_region ?_; refine Tm ?_; refine Ta ?_; refine Tm ?_; refine OPS_nil ?_)); rotate_left 1))
      · rw [if_pos c9_4] at htk
        refine roundF_n (k + 1, td ++ [(v3, v4)], p9_7, q9_7, m9_7) (by simp only; omega) ⟨rfl, by simp only; omega, ?_, o9_7⟩ (by repeat' first | exact sR _ | exact sA _ _ | exact sN _ | apply s2 | apply s1) (by repeat' first | exact trivial | refine ⟨rfl, ?_⟩)
        simp only; rw [refsOf_plain hw]; simp only; rw [htk, htd, List.append_assoc]
      · rw [if_neg c9_4, List.append_nil] at htk
        refine roundF_n (k + 1, td, pt2, ct2, M2) (by simp only; omega) ⟨rfl, by simp only; omega, ?_, hT⟩ (by repeat' first | exact sR _ | exact sA _ _ | exact sN _ | apply s2 | apply s1) (by repeat' first | exact trivial | refine ⟨rfl, ?_⟩)
        simp only; rw [refsOf_plain hw]; simp only; rw [htk, htd]
    have hge2 : k = fs.length := by omega
    subst hge2
    rw [List.take_length] at htd
    (focus (refine WP_seq ?_; refine Wr ?_; refine Tm ?_; refine Tf ?_; refine Tl ?_; refine Lo m0 ?_; refine Tlen ?_; refine Tc ?_; refine Tm ?_; refine Ugs ?_ ?_ <;> intro c10_1 <;> (first | simp [*] at c10_1; done | try simp at c10_1); refine Tn ?_; refine Tn ?_; refine Tn ?_; refine Tp0 ?_; refine On ?_; refine cond_f rfl ?_; refine WP_exit ?_; refine then_e ?_; refine roundF_e ?_; refine block_e ?_; refine block_n ?_; refine then_n ?_; refine R_region ?_; refine Tm ?_; refine Ta ?_; refine Tm ?_; refine OPS_nil ?_))
    refine roundF_n (i + 1, td, pt2, ct2, M2) (by simp only; omega) ⟨rfl, by simp only; omega, ?_, hT⟩ (by repeat' first | exact sR _ | exact sA _ _ | exact sN _ | apply s2 | apply s1) (by repeat' first | exact trivial | refine ⟨rfl, ?_⟩)
    simp only; rw [hft, htd, hall, List.append_assoc]
  have hge : i = live.length := by omega
  subst hge
  rw [List.take_length] at hall
  have hall2 : all = safeAll (graphR vs).1 live (rootsR vs) := by rw [hall, safeAll]
  rw [← hall2] at hsafe
  refine WP_keepM [] M _ rfl fun h4 hl4 hm4 => ?_
  have hA : SL h4 2 IDC (.slice p all.length c) all := hO.sl hl4 IDC_mono hm4 (by omega)
  clear hO hm4 hall hall2
  (replace f2_5 := f2_5.up hl4; replace f2_1 := f2_1.up hl4; replace a1_k := a1_k.up hl4; replace fg0_1 := fg0_1.up hl4; replace hs := hs.up hl4; replace f2_2 := f2_2.up hl4; replace o2_4 := o2_4.up hl4)
  (focus (refine WP_seq ?_; refine Wr ?_; refine Tm ?_; refine Tm ?_; refine Tlen ?_; refine Tc ?_; refine On ?_; refine Wc ?_ ?_ <;> intro c12_1 <;> (first | simp [*] at c12_1; done | try simp at c12_1); refine WP_exit ?_; refine then_e ?_; refine roundF_e ?_; refine block_e ?_; refine then_n ?_; refine WP_seq ?_; refine Wr ?_; refine Tm ?_; refine On ?_; refine WP_block ?_))
  (refine WP_loopC (α := Nat) [6, 5, 3, 0] (fun (j : Nat) => all.length - j) (fun (j : Nat) => [(11, .int .i64 (j : Int))]) (fun hh (j : Nat) => hh = h4 ∧ j ≤ all.length ∧ (all.drop j).any (fun id => !thereB (graphR vs).1 id) = all.any (fun id => !thereB (graphR vs).1 id)) 0 ⟨_, _, rfl, ⟨_, _, rfl, ⟨_, _, rfl, ⟨_, _, rfl, rfl, rfl⟩, rfl⟩, rfl⟩, rfl⟩ (by repeat' first | exact trivial | refine ⟨rfl, ?_⟩) ?_ ?_)
  · exact ⟨rfl, Nat.zero_le _, rfl⟩
  rintro h5 j _ ⟨rfl, hj, ht⟩
  by_cases hlt : j < all.length
  · obtain ⟨⟨x1, x2⟩, ex⟩ := get_of hlt
    rw [any_drop' ex] at ht
    (focus (refine WP_seq ?_; refine Wr ?_; refine Tm ?_; refine Tm ?_; refine Tlen ?_; refine Tc ?_; refine On ?_; refine Wc ?_ ?_ <;> intro c14_1 <;> (first | simp [*] at c14_1; done | try simp at c14_1); refine WP_skip ?_; refine then_n ?_; refine WP_seq ?_; refine WP_block ?_))
    (focus (refine WP_seq ?_; refine R_draw (n := 12) mixed rfl ?_; refine Va 0 ?_; refine Vl 1 ?_; refine Lp ?_; refine Va 1 ?_; refine Vm 3 ?_; refine Va 2 ?_; refine Vm 7 ?_; refine Va 3 ?_; refine A_q (m' := 15) rfl rfl rfl (Q_indexS ‹_› ‹_› rfl rfl rfl (elm rfl) rfl) rfl (fbL (by decide +kernel)) ?_; refine Va 4 ?_; refine Vl 31 ?_; refine Le ?_; rintro _ _ _ rfl; refine A_two 5 9 (mi := 63) (mj := 543) rfl rfl (by decide +kernel) rfl rfl ?_ ?_; (focus (refine T_at rfl ?_; refine T_cO rfl rfl rfl (C_call0 (refFind_s ⟨_, _, rfl, by assumption⟩) rfl rfl ⟨_, _, rfl, ⟨_, _, rfl, rfl, rfl⟩, rfl⟩ (cal rfl) ?_); rintro _ ⟨cv15_2, rfl, cl15_2, co15_2, ⟨pn15_2, qn15_2, rfl, fn15_2⟩⟩; refine Va 6 ?_; refine Vm 127 ?_; refine Va 7 ?_; refine A_q (m' := 255) rfl rfl rfl (Q_extract rfl rfl rfl) rfl (fbL (by decide +kernel)) ?_; refine Va 8 ?_; refine A_qp (m' := 511) rfl rfl rfl (Q_extract rfl rfl rfl) rfl (fpL (by decide +kernel)) ?_; refine Va 9 ?_; refine A_c (m' := 1023) rfl rfl rfl rfl (by decide +kernel) (C_alloc rfl (zer rfl) ?_); intro b15_3; refine Va 10 ?_; refine A_w0 (m' := 2047) rfl rfl rfl rfl (by decide +kernel) (W_all rfl rfl rfl (ty rfl) u0 (by first | rfl | assumption) (by first | rfl | assumption) (by first | rfl | assumption | exact ones_sub ‹_› _ _) ?_); refine Va 11 ?_; refine Vs 4095 ?_; refine A_done (by decide +kernel) ?_; refine then_n ?_; refine Wr ?_; refine Tm ?_; refine S_q rfl rfl rfl (Q_not rfl rfl) ?_; refine Tm ?_; refine Ugs ?_ ?_ <;> intro c15_4 <;> (first | simp [*] at c15_4; done | try simp at c15_4); (focus (refine Tn ?_; refine Tn ?_; refine Tn ?_; refine Tp1 ?_; refine On ?_; refine cond_t rfl ?_; refine Wr ?_; refine Tm ?_; refine On ?_; refine WP_ret ?_; refine block_r ?_; refine then_r ?_; refine roundF_r ?_; refine block_r ?_; refine then_r ?_)); rotate_left 1; (focus (refine Ugf ?_; refine Ugl ?_; refine Lo m0 ?_; refine Ugc ?_; refine Tp0 ?_; refine On ?_; refine Wc ?_ ?_ <;> intro c15_5 <;> (first | simp [*] at c15_5; done | try simp at c15_5); (focus (refine Wr ?_; refine Tm ?_; refine On ?_; refine WP_ret ?_; refine block_r ?_; refine then_r ?_; refine roundF_r ?_; refine block_r ?_; refine then_r ?_)); rotate_left 1; (focus (refine WP_skip ?_; refine block_n ?_; refine then_n ?_; refine R_region ?_; refine Tm ?_; refine Ta ?_; refine Tm ?_; refine OPS_nil ?_)); rotate_left 1)); rotate_left 2)); rotate_left 3; (focus (refine T_at rfl ?_; refine T_cO rfl rfl rfl (C_alloc rfl (zer rfl) ?_); intro b15_6; refine Va 5 ?_; refine A_c (m' := 575) rfl rfl rfl rfl (by decide +kernel) (C_call0 (refFind_s ⟨_, _, rfl, by assumption⟩) rfl rfl ⟨_, _, rfl, ⟨_, _, rfl, rfl, rfl⟩, rfl⟩ (cal rfl) ?_); rintro _ ⟨cv15_7, rfl, cl15_7, co15_7, ⟨pn15_7, qn15_7, rfl, fn15_7⟩⟩; refine Va 6 ?_; refine Vm 639 ?_; refine Va 7 ?_; refine A_q (m' := 767) rfl rfl rfl (Q_extract rfl rfl rfl) rfl (fbL (by decide +kernel)) ?_; refine Va 8 ?_; refine A_qp (m' := 1023) rfl rfl rfl (Q_extract rfl rfl rfl) rfl (fpL (by decide +kernel)) ?_; refine Va 10 ?_; refine A_w0 (m' := 2047) rfl rfl rfl rfl (by decide +kernel) (W_all rfl rfl rfl (ty rfl) u0 (by first | rfl | assumption) (by first | rfl | assumption) (by first | rfl | assumption | exact ones_sub ‹_› _ _) ?_); refine Va 11 ?_; refine Vs 4095 ?_; refine A_done (by decide +kernel) ?_; refine then_n ?_; refine Wr ?_; refine Tm ?_; refine S_q rfl rfl rfl (Q_not rfl rfl) ?_; refine Tm ?_; refine Ugs ?_ ?_ <;> intro c15_8 <;> (first | simp [*] at c15_8; done | try simp at c15_8); (focus (refine Tn ?_; refine Tn ?_; refine Tn ?_; refine Tp1 ?_; refine On ?_; refine cond_t rfl ?_; refine Wr ?_; refine Tm ?_; refine On ?_; refine WP_ret ?_; refine block_r ?_; refine then_r ?_; refine roundF_r ?_; refine block_r ?_; refine then_r ?_)); rotate_left 1; (focus (refine Ugf ?_; refine Ugl ?_; refine Lo m0 ?_; refine Ugc ?_; refine Tp0 ?_; refine On ?_; refine Wc ?_ ?_ <;> intro c15_9 <;> (first | simp [*] at c15_9; done | try simp at c15_9); (focus (refine Wr ?_; refine Tm ?_; refine On ?_; refine WP_ret ?_; refine block_r ?_; refine then_r ?_; refine roundF_r ?_; refine block_r ?_; refine then_r ?_)); rotate_left 1; (focus (refine WP_skip ?_; refine block_n ?_; refine then_n ?_; refine R_region ?_; refine Tm ?_; refine Ta ?_; refine Tm ?_; refine OPS_nil ?_)); rotate_left 1)); rotate_left 2)); rotate_left 3))
    · have hy : all.any (fun id => !thereB (graphR vs).1 id) = true := by rw [← ht, thereB_eq, c15_4]; rfl
      refine pret (.inl rfl) rfl ⟨_, _, rfl, rfl, rfl⟩ ?_
      simp only [resOf]; rw [hsafe, if_pos hy]
    · have hy : all.any (fun id => !thereB (graphR vs).1 id) = true := by rw [← ht, thereB_eq, c15_4, c15_5]; rfl
      refine pret (.inl rfl) rfl ⟨_, _, rfl, rfl, rfl⟩ ?_
      simp only [resOf]; rw [hsafe, if_pos hy]
    · refine roundF_n (j + 1) (by omega) ⟨rfl, by omega, ?_⟩ (by repeat' first | exact sR _ | exact sA _ _ | exact sN _ | apply s2 | apply s1) (by repeat' first | exact trivial | refine ⟨rfl, ?_⟩)
      rw [← ht, thereB_eq, c15_4, decide_eq_true c15_5]; rfl
    · have hy : all.any (fun id => !thereB (graphR vs).1 id) = true := by rw [← ht, thereB_eq, c15_8]; rfl
      refine pret (.inl rfl) rfl ⟨_, _, rfl, rfl, rfl⟩ ?_
      simp only [resOf]; rw [hsafe, if_pos hy]
    · have hy : all.any (fun id => !thereB (graphR vs).1 id) = true := by rw [← ht, thereB_eq, c15_8, c15_9]; rfl
      refine pret (.inl rfl) rfl ⟨_, _, rfl, rfl, rfl⟩ ?_
      simp only [resOf]; rw [hsafe, if_pos hy]
    · refine roundF_n (j + 1) (by omega) ⟨rfl, by omega, ?_⟩ (by repeat' first | exact sR _ | exact sA _ _ | exact sN _ | apply s2 | apply s1) (by repeat' first | exact trivial | refine ⟨rfl, ?_⟩)
      rw [← ht, thereB_eq, c15_8, decide_eq_true c15_9]; rfl
  have hge : j = all.length := by omega
  subst hge
  rw [List.drop_length] at ht
  have hno : all.any (fun id => !thereB (graphR vs).1 id) = false := by rw [← ht]; rfl
  rw [hno, if_neg (by simp), safe3_def] at hsafe
  (focus (refine WP_seq ?_; refine Wr ?_; refine Tm ?_; refine Tm ?_; refine Tlen ?_; refine Tc ?_; refine On ?_; refine Wc ?_ ?_ <;> intro c16_1 <;> (first | simp [*] at c16_1; done | try simp at c16_1); refine WP_exit ?_; refine then_e ?_; refine roundF_e ?_; refine block_e ?_; refine then_n ?_; refine WP_seq ?_; refine Wr ?_; refine Tm ?_; refine On ?_; refine WP_block ?_))
  (refine WP_loopC (α := Nat) [5, 0] (fun (k : Nat) => vs.length - k) (fun (k : Nat) => [(14, .int .i64 (k : Int))]) (fun hh (k : Nat) => le h5 hh ∧ k ≤ vs.length ∧ (vs.drop k).any (fun v => v.flights.any (lostB vs v)) = vs.any (fun v => v.flights.any (lostB vs v))) 0 ⟨_, _, rfl, ⟨_, _, rfl, rfl, rfl⟩, rfl⟩ (by repeat' first | exact trivial | refine ⟨rfl, ?_⟩) ?_ ?_)
  · exact ⟨le_refl _, Nat.zero_le _, rfl⟩
  rintro h6 k _ ⟨hl6, hk, hv⟩
  (replace hA := hA.up hl6; replace f2_5 := f2_5.up hl6; replace f2_1 := f2_1.up hl6; replace a1_k := a1_k.up hl6; replace fg0_1 := fg0_1.up hl6; replace hs := hs.up hl6; replace f2_2 := f2_2.up hl6; replace o2_4 := o2_4.up hl6)
  by_cases hlt : k < vs.length
  · obtain ⟨v, ev⟩ := get_of hlt
    have hvm : v ∈ vs := List.mem_of_getElem? ev
    have hv6 := sm.flights v hvm
    rw [any_drop' ev] at hv
    (focus (refine WP_seq ?_; refine Wr ?_; refine Tm ?_; refine Tm ?_; refine Tlen ?_; refine Tc ?_; refine On ?_; refine Wc ?_ ?_ <;> intro c19_1 <;> (first | simp [*] at c19_1; done | try simp at c19_1); refine WP_skip ?_; refine then_n ?_; refine WP_seq ?_; refine WP_block ?_; refine Wr ?_; refine Tm ?_; refine On ?_; refine WP_block ?_))
    (refine WP_loopC (α := Nat) [14, 5, 0] (fun (r : Nat) => v.flights.length - r) (fun (r : Nat) => [(15, .int .i64 (r : Int))]) (fun hh (r : Nat) => le h6 hh ∧ r ≤ v.flights.length ∧ (v.flights.drop r).any (lostB vs v) = v.flights.any (lostB vs v)) 0 ⟨_, _, rfl, ⟨_, _, rfl, ⟨_, _, rfl, rfl, rfl⟩, rfl⟩, rfl⟩ (by repeat' first | exact trivial | refine ⟨rfl, ?_⟩) ?_ ?_)
    · exact ⟨le_refl _, Nat.zero_le _, rfl⟩
    rintro h7 r _ ⟨hl7, hr, hx⟩
    (replace hA := hA.up hl7; replace f2_5 := f2_5.up hl7; replace f2_1 := f2_1.up hl7; replace a1_k := a1_k.up hl7; replace fg0_1 := fg0_1.up hl7; replace hs := hs.up hl7; replace f2_2 := f2_2.up hl7; replace o2_4 := o2_4.up hl7)
    by_cases hlt2 : r < v.flights.length
    · obtain ⟨x, ex⟩ := get_of hlt2
      rw [any_drop' ex] at hx
      (focus (refine WP_seq ?_; refine Wr ?_; refine Tm ?_; refine Tm ?_; refine Tm ?_; refine Ti ?_; refine Tf ?_; refine Tl ?_; refine L_elF ‹_› ‹_› ?_; rintro _ _ _ ⟨xi22_1, xa22_1, po22_1, qo22_1, ps22_1, qs22_1, pc22_1, qc22_1, pn22_1, qn22_1, pm22_1, qm22_1, xw22_1, xv22_1, pf22_1, qf22_1, pr22_1, qr22_1, xe22_1, xf22_1, rfl, vo22_1, vs22_1, vc22_1, vn22_1, vm22_1, vf22_1, vr22_1⟩; refine LV_1 (ty rfl) rfl ?_; refine Tlen ?_; refine Tc ?_; refine On ?_; refine Wc ?_ ?_ <;> intro c22_2 <;> (first | simp [*] at c22_2; done | try simp at c22_2); refine WP_skip ?_; refine then_n ?_; refine WP_seq ?_; refine WP_block ?_; refine Wr ?_; refine Tm ?_; refine Tm ?_; refine Ti ?_; refine Tf ?_; refine Tl ?_; refine L_elF ‹_› ‹_› ?_; rintro _ _ _ ⟨xi22_3, xa22_3, po22_3, qo22_3, ps22_3, qs22_3, pc22_3, qc22_3, pn22_3, qn22_3, pm22_3, qm22_3, xw22_3, xv22_3, pf22_3, qf22_3, pr22_3, qr22_3, xe22_3, xf22_3, rfl, vo22_3, vs22_3, vc22_3, vn22_3, vm22_3, vf22_3, vr22_3⟩; refine LV_1 (ty rfl) rfl ?_; refine Tm ?_; refine Ti ?_; refine Tl ?_; refine Le ?_; rintro _ _ _ ⟨xa22_4, xb22_4, xc22_4, xd22_4, xe22_4, pa22_4, qa22_4, pf22_4, qf22_4, pm22_4, qm22_4, xw22_4, y122_4, y222_4, y322_4, y422_4, y522_4, y622_4, y722_4, y822_4, y922_4, y1022_4, y1122_4, y1222_4, y1322_4, y1422_4, y1522_4, rfl, ha22_4, hf22_4, hm22_4⟩; refine Tal ?_; intro b22_5; refine Tw u0 ?_; refine On ?_))
      (focus (refine WP_keepM [] [_] _ rfl ?_; rintro h23_k l23_k k23_k; have a23_k := at_of_keep k23_k; clear k23_k; replace hA := hA.up l23_k; replace f2_5 := f2_5.up l23_k; replace f2_1 := f2_1.up l23_k; replace a1_k := a1_k.up l23_k; replace fg0_1 := fg0_1.up l23_k; replace hs := hs.up l23_k; replace f2_2 := f2_2.up l23_k; replace o2_4 := o2_4.up l23_k; replace vo22_1 := vo22_1.up l23_k; replace vs22_1 := vs22_1.up l23_k; replace vc22_1 := vc22_1.up l23_k; replace vn22_1 := vn22_1.up l23_k; replace vm22_1 := vm22_1.up l23_k; replace vf22_1 := vf22_1.up l23_k; replace vr22_1 := vr22_1.up l23_k; replace vo22_3 := vo22_3.up l23_k; replace vs22_3 := vs22_3.up l23_k; replace vc22_3 := vc22_3.up l23_k; replace vn22_3 := vn22_3.up l23_k; replace vm22_3 := vm22_3.up l23_k; replace vf22_3 := vf22_3.up l23_k; replace vr22_3 := vr22_3.up l23_k; replace ha22_4 := ha22_4.up l23_k; replace hf22_4 := hf22_4.up l23_k; replace hm22_4 := hm22_4.up l23_k))
      (focus (refine WP_seq ?_; refine R_draw (n := 29) mixed rfl ?_; refine Va 0 ?_; refine Vf 1 ?_; refine Va 1 ?_; refine Vf 3 ?_; refine Va 2 ?_; refine Vl 7 ?_; refine L_fld2 (Rd.pers ‹_›) ?_; refine LV_1 (ty rfl) rfl ?_; refine Va 3 ?_; refine A_q (m' := 15) rfl rfl rfl (Q_cmp rfl rfl rfl rfl) rfl (fbL (by decide +kernel)) ?_; refine Va 4 ?_; refine Vm 31 ?_; refine Va 5 ?_; refine Vgs ?_ ?_ <;> intro c24_1 <;> (first | simp [*] at c24_1; done | try simp at c24_1); (focus (refine Va 5 ?_; refine Vgm 63 ?_; refine Va 6 ?_; refine Vgm 127 ?_; refine Va 7 ?_; refine Vgm 255 ?_; refine Va 8 ?_; refine A_gq (m' := 511) rfl rfl rfl rfl rfl rfl (Q_indexS ‹_› ‹_› rfl rfl rfl (elm rfl) rfl) rfl (fbL (by decide +kernel)) ?_; refine Va 9 ?_; refine Vgl 1023 ?_; refine Le ?_; rintro _ _ _ ⟨xi24_2, xa24_2, po24_2, qo24_2, ps24_2, qs24_2, pc24_2, qc24_2, pn24_2, qn24_2, pm24_2, qm24_2, xw24_2, xv24_2, pf24_2, qf24_2, pr24_2, qr24_2, xe24_2, xf24_2, rfl, vo24_2, vs24_2, vc24_2, vn24_2, vm24_2, vf24_2, vr24_2⟩; refine Va 10 ?_; refine Vgl 2047 ?_; refine Lp ?_; refine Va 11 ?_; refine A_gc (m' := 4095) rfl rfl rfl rfl rfl rfl rfl (by decide +kernel) (C_callv (refFlying_s ‹_› ⟨by assumption, _, _, _, _, _, _, _, _, _, _, _, _, _, _, _, _, _, _, _, rfl, by assumption, by assumption, by assumption, by assumption, by assumption, by assumption, by assumption⟩ ⟨_, _, _, _, _, _, _, _, _, _, _, _, _, _, _, _, _, _, _, _, _, _, _, _, _, _, _, rfl, by assumption, by assumption, by assumption⟩) rfl rfl ⟨_, _, rfl, ⟨_, _, rfl, ⟨_, _, rfl, rfl, rfl⟩, rfl⟩, rfl⟩ (cal rfl) ?_); refine Va 12 ?_; refine A_q (m' := 8191) rfl rfl rfl (Q_pick_t rfl rfl rfl) rfl (fbL (by decide +kernel)) ?_; refine Va 13 ?_; refine Vm 16383 ?_; refine Va 14 ?_; refine Vgs ?_ ?_ <;> intro c24_3 <;> (first | simp [*] at c24_3; done | try simp at c24_3); (focus (refine Va 14 ?_; refine Vgm 32767 ?_; refine Va 15 ?_; refine Vgm 65535 ?_; refine Va 16 ?_; refine Vgm 131071 ?_; refine Va 17 ?_; refine A_gq (m' := 262143) rfl rfl rfl rfl rfl rfl (Q_indexS ‹_› ‹_› rfl rfl rfl (elm rfl) rfl) rfl (fbL (by decide +kernel)) ?_; refine Va 18 ?_; refine A_gq (m' := 524287) rfl rfl rfl rfl rfl rfl (Q_fieldAddr rfl rfl (fld rfl rfl)) rfl (fbL (by decide +kernel)) ?_; refine Va 19 ?_; refine Vgl 1048575 ?_; refine L_elF ‹_› ‹_› ?_; rintro _ _ _ ⟨xi24_4, xa24_4, po24_4, qo24_4, ps24_4, qs24_4, pc24_4, qc24_4, pn24_4, qn24_4, pm24_4, qm24_4, xw24_4, xv24_4, pf24_4, qf24_4, pr24_4, qr24_4, xe24_4, xf24_4, rfl, vo24_4, vs24_4, vc24_4, vn24_4, vm24_4, vf24_4, vr24_4⟩; refine LV_1 (ty rfl) rfl ?_; refine Va 20 ?_; refine A_gq (m' := 2097151) rfl rfl rfl rfl rfl rfl (Q_fieldAddr rfl rfl (fld rfl rfl)) rfl (fbL (by decide +kernel)) ?_; refine Va 21 ?_; refine Vgl 4194303 ?_; refine L_fld (Rd.pers ‹_›) (ty rfl) rfl ?_; refine Va 22 ?_; refine A_gq (m' := 8388607) rfl rfl rfl rfl rfl rfl (Q_fieldAddr rfl rfl (fld rfl rfl)) rfl (fbL (by decide +kernel)) ?_; refine Va 23 ?_; refine A_gq (m' := 16777215) rfl rfl rfl rfl rfl rfl (Q_fieldAddr rfl rfl (fld rfl rfl)) rfl (fbL (by decide +kernel)) ?_; refine Va 24 ?_; refine Vgl 33554431 ?_; refine L_fld2 (Rd.pers ‹_›) ?_; refine LV_1 (ty rfl) rfl ?_; refine Va 26 ?_; refine A_gq (m' := 100663295) rfl rfl rfl rfl rfl rfl (Q_build rfl (by decide +kernel) (zer rfl) rfl rfl) rfl (fbL (by decide +kernel)) ?_; refine Va 25 ?_; refine A_gc (m' := 134217727) rfl rfl rfl rfl rfl rfl rfl (by decide +kernel) (C_callv (refNumbered_s ‹_›) rfl rfl ⟨_, _, rfl, ⟨_, _, rfl, ⟨_, _, rfl, ⟨_, _, rfl, rfl, rfl⟩, rfl⟩, rfl⟩, rfl⟩ (cal rfl) ?_); refine Va 27 ?_; refine A_gq (m' := 268435455) rfl rfl rfl rfl rfl rfl (Q_eqI eqID rfl rfl rfl rfl rfl) rfl (fbL (by decide +kernel)) ?_; refine Va 28 ?_; refine A_q (m' := 536870911) rfl rfl rfl (Q_pick_t rfl rfl rfl) rfl (fbL (by decide +kernel)) ?_; refine A_done (by decide +kernel) ?_; refine then_n ?_; refine Wc ?_ ?_ <;> intro c24_5 <;> (first | simp [*] at c24_5; done | try simp at c24_5); (focus (refine Wr ?_; refine Tm ?_; refine On ?_; refine WP_ret ?_; refine block_r ?_; refine then_r ?_; refine roundF_r ?_; refine block_r ?_; refine block_r ?_; refine then_r ?_; refine roundF_r ?_; refine block_r ?_; refine then_r ?_)); rotate_left 1; (focus (refine WP_skip ?_; refine block_n ?_; refine then_n ?_; refine R_region ?_; refine Tm ?_; refine Ta ?_; refine Tm ?_; refine OPS_nil ?_)); rotate_left 1)); rotate_left 2; (focus (refine Va 14 ?_; refine Vn 32767 ?_; refine Va 15 ?_; refine Vn 65535 ?_; refine Va 16 ?_; refine Vn 131071 ?_; refine Va 17 ?_; refine Vn 262143 ?_; refine Va 18 ?_; refine Vn 524287 ?_; refine Va 19 ?_; refine Vn 1048575 ?_; refine Va 20 ?_; refine Vn 2097151 ?_; refine Va 21 ?_; refine Vn 4194303 ?_; refine Va 22 ?_; refine Vn 8388607 ?_; refine Va 23 ?_; refine Vn 16777215 ?_; refine Va 24 ?_; refine Vn 33554431 ?_; refine Va 25 ?_; refine Vn 67108863 ?_; refine Va 26 ?_; refine Vn 134217727 ?_; refine Va 27 ?_; refine Vn 268435455 ?_; refine Va 28 ?_; refine A_q (m' := 536870911) rfl rfl rfl (Q_pick_f rfl rfl rfl) rfl (fbL (by decide +kernel)) ?_; refine A_done (by decide +kernel) ?_; refine then_n ?_; refine cond_f rfl ?_; refine WP_skip ?_; refine block_n ?_; refine then_n ?_; refine R_region ?_; refine Tm ?_; refine Ta ?_; refine Tm ?_; refine OPS_nil ?_)); rotate_left 1)); rotate_left 3; (focus (refine Va 5 ?_; refine Vn 63 ?_; refine Va 6 ?_; refine Vn 127 ?_; refine Va 7 ?_; refine Vn 255 ?_; refine Va 8 ?_; refine Vn 511 ?_; refine Va 9 ?_; refine Vn 1023 ?_; refine Va 10 ?_; refine Vn 2047 ?_; refine Va 11 ?_; refine Vn 4095 ?_; refine Va 12 ?_; refine A_q (m' := 8191) rfl rfl rfl (Q_pick_f rfl rfl rfl) rfl (fbL (by decide +kernel)) ?_; refine Va 13 ?_; refine Vm 16383 ?_; refine Va 14 ?_; refine Vn 32767 ?_; refine Va 15 ?_; refine Vn 65535 ?_; refine Va 16 ?_; refine Vn 131071 ?_; refine Va 17 ?_; refine Vn 262143 ?_; refine Va 18 ?_; refine Vn 524287 ?_; refine Va 19 ?_; refine Vn 1048575 ?_; refine Va 20 ?_; refine Vn 2097151 ?_; refine Va 21 ?_; refine Vn 4194303 ?_; refine Va 22 ?_; refine Vn 8388607 ?_; refine Va 23 ?_; refine Vn 16777215 ?_; refine Va 24 ?_; refine Vn 33554431 ?_; refine Va 25 ?_; refine Vn 67108863 ?_; refine Va 26 ?_; refine Vn 134217727 ?_; refine Va 27 ?_; refine Vn 268435455 ?_; refine Va 28 ?_; refine A_q (m' := 536870911) rfl rfl rfl (Q_pick_f rfl rfl rfl) rfl (fbL (by decide +kernel)) ?_; refine A_done (by decide +kernel) ?_; refine then_n ?_; refine cond_f rfl ?_; refine WP_skip ?_; refine block_n ?_; refine then_n ?_; refine R_region ?_; refine Tm ?_; refine Ta ?_; refine Tm ?_; refine OPS_nil ?_)); rotate_left 1))
      · have hl : lostB vs v x = true := by rw [lostB_zero c24_1, c24_3, Bool.true_and, decide_eq_true (Prod.ext c24_5.1 c24_5.2)]
        have hy : vs.any (fun v => v.flights.any (lostB vs v)) = true := by rw [← hv, ← hx, hl]; rfl
        refine pret (.inl rfl) rfl ⟨_, _, rfl, rfl, rfl⟩ ?_
        simp only [resOf]; rw [hsafe, if_pos hy]
      · have hl : lostB vs v x = false := by rw [lostB_zero c24_1, c24_3, Bool.true_and, decide_eq_false (fun e => c24_5 (congrArg Prod.fst e) (congrArg Prod.snd e))]
        refine roundF_n (r + 1) (by omega) ⟨le_trans hl7 l23_k, by omega, ?_⟩ (by repeat' first | exact sR _ | exact sA _ _ | exact sN _ | apply s2 | apply s1) (by repeat' first | exact trivial | refine ⟨rfl, ?_⟩)
        rw [← hx, hl]; rfl
      · have hl : lostB vs v x = false := by rw [lostB_zero c24_1, c24_3]; rfl
        refine roundF_n (r + 1) (by omega) ⟨le_trans hl7 l23_k, by omega, ?_⟩ (by repeat' first | exact sR _ | exact sA _ _ | exact sN _ | apply s2 | apply s1) (by repeat' first | exact trivial | refine ⟨rfl, ?_⟩)
        rw [← hx, hl]; rfl
      · have hl : lostB vs v x = false := lostB_other c24_1
        refine roundF_n (r + 1) (by omega) ⟨le_trans hl7 l23_k, by omega, ?_⟩ (by repeat' first | exact sR _ | exact sA _ _ | exact sN _ | apply s2 | apply s1) (by repeat' first | exact trivial | refine ⟨rfl, ?_⟩)
        rw [← hx, hl]; rfl
    have hge : r = v.flights.length := by omega
    subst hge
    rw [List.drop_length] at hx
    (focus (refine WP_seq ?_; refine Wr ?_; refine Tm ?_; refine Tm ?_; refine Tm ?_; refine Ti ?_; refine Tf ?_; refine Tl ?_; refine L_elF ‹_› ‹_› ?_; rintro _ _ _ ⟨xi25_1, xa25_1, po25_1, qo25_1, ps25_1, qs25_1, pc25_1, qc25_1, pn25_1, qn25_1, pm25_1, qm25_1, xw25_1, xv25_1, pf25_1, qf25_1, pr25_1, qr25_1, xe25_1, xf25_1, rfl, vo25_1, vs25_1, vc25_1, vn25_1, vm25_1, vf25_1, vr25_1⟩; refine LV_1 (ty rfl) rfl ?_; refine Tlen ?_; refine Tc ?_; refine On ?_; refine Wc ?_ ?_ <;> intro c25_2 <;> (first | simp [*] at c25_2; done | try simp at c25_2); refine WP_exit ?_; refine then_e ?_; refine roundF_e ?_; refine block_e ?_; refine block_n ?_; refine then_n ?_; refine R_region ?_; refine Tm ?_; refine Ta ?_; refine Tm ?_; refine OPS_nil ?_))
    refine roundF_n (k + 1) (by omega) ⟨le_trans hl6 hl7, by omega, ?_⟩ (by repeat' first | exact sR _ | exact sA _ _ | exact sN _ | apply s2 | apply s1) (by repeat' first | exact trivial | refine ⟨rfl, ?_⟩)
    rw [← hv, ← hx]; rfl
  have hge : k = vs.length := by omega
  subst hge
  rw [List.drop_length] at hv
  have hno2 : vs.any (fun v => v.flights.any (lostB vs v)) = false := by rw [← hv]; rfl
  rw [hno2, if_neg (by simp), safe4_def] at hsafe
  clear hv
  (focus (refine WP_seq ?_; refine Wr ?_; refine Tm ?_; refine Tm ?_; refine Tlen ?_; refine Tc ?_; refine On ?_; refine Wc ?_ ?_ <;> intro c26_1 <;> (first | simp [*] at c26_1; done | try simp at c26_1); refine WP_exit ?_; refine then_e ?_; refine roundF_e ?_; refine block_e ?_; refine then_n ?_; refine WP_seq ?_; refine Wr ?_; refine Tm ?_; refine On ?_; refine WP_block ?_))
  (refine WP_loopC (α := Nat) [5, 0] (fun (k : Nat) => vs.length - k) (fun (k : Nat) => [(17, .int .i64 (k : Int))]) (fun hh (k : Nat) => le h6 hh ∧ k ≤ vs.length ∧ (vs.drop k).any (fun v => v.stubs.any (badStub vs live v)) = vs.any (fun v => v.stubs.any (badStub vs live v))) 0 ⟨_, _, rfl, ⟨_, _, rfl, rfl, rfl⟩, rfl⟩ (by repeat' first | exact trivial | refine ⟨rfl, ?_⟩) ?_ ?_)
  · exact ⟨le_refl _, Nat.zero_le _, rfl⟩
  rintro h7 k _ ⟨hl7, hk, hv⟩
  (replace hA := hA.up hl7; replace f2_5 := f2_5.up hl7; replace f2_1 := f2_1.up hl7; replace a1_k := a1_k.up hl7; replace fg0_1 := fg0_1.up hl7; replace hs := hs.up hl7; replace f2_2 := f2_2.up hl7; replace o2_4 := o2_4.up hl7)
  by_cases hlt : k < vs.length
  · obtain ⟨v, ev⟩ := get_of hlt
    have hvm : v ∈ vs := List.mem_of_getElem? ev
    have hv6 := sm.stubs v hvm
    rw [any_drop' ev] at hv
    (focus (refine WP_seq ?_; refine Wr ?_; refine Tm ?_; refine Tm ?_; refine Tlen ?_; refine Tc ?_; refine On ?_; refine Wc ?_ ?_ <;> intro c29_1 <;> (first | simp [*] at c29_1; done | try simp at c29_1); refine WP_skip ?_; refine then_n ?_; refine WP_seq ?_; refine WP_block ?_; refine Wr ?_; refine Tm ?_; refine On ?_; refine WP_block ?_))
    (refine WP_loopC (α := Nat) [17, 5, 0] (fun (r : Nat) => v.stubs.length - r) (fun (r : Nat) => [(18, .int .i64 (r : Int))]) (fun hh (r : Nat) => le h7 hh ∧ r ≤ v.stubs.length ∧ (v.stubs.drop r).any (badStub vs live v) = v.stubs.any (badStub vs live v)) 0 ⟨_, _, rfl, ⟨_, _, rfl, ⟨_, _, rfl, rfl, rfl⟩, rfl⟩, rfl⟩ (by repeat' first | exact trivial | refine ⟨rfl, ?_⟩) ?_ ?_)
    · exact ⟨le_refl _, Nat.zero_le _, rfl⟩
    rintro h8 r _ ⟨hl8, hr, hx⟩
    (replace hA := hA.up hl8; replace f2_5 := f2_5.up hl8; replace f2_1 := f2_1.up hl8; replace a1_k := a1_k.up hl8; replace fg0_1 := fg0_1.up hl8; replace hs := hs.up hl8; replace f2_2 := f2_2.up hl8; replace o2_4 := o2_4.up hl8)
    by_cases hlt2 : r < v.stubs.length
    · obtain ⟨⟨so, sn, ⟨s1, s2⟩, sw, sd⟩, ex⟩ := get_of hlt2
      rw [any_drop' ex] at hx
      have hbd := badStub_def vs live v ⟨so, sn, (s1, s2), sw, sd⟩
      simp only at hbd
      (focus (refine WP_seq ?_; refine Wr ?_; refine Tm ?_; refine Tm ?_; refine Tm ?_; refine Ti ?_; refine Tf ?_; refine Tl ?_; refine L_elF ‹_› ‹_› ?_; rintro _ _ _ ⟨xi32_1, xa32_1, po32_1, qo32_1, ps32_1, qs32_1, pc32_1, qc32_1, pn32_1, qn32_1, pm32_1, qm32_1, xw32_1, xv32_1, pf32_1, qf32_1, pr32_1, qr32_1, xe32_1, xf32_1, rfl, vo32_1, vs32_1, vc32_1, vn32_1, vm32_1, vf32_1, vr32_1⟩; refine LV_1 (ty rfl) rfl ?_; refine Tlen ?_; refine Tc ?_; refine On ?_; refine Wc ?_ ?_ <;> intro c32_2 <;> (first | simp [*] at c32_2; done | try simp at c32_2); refine WP_skip ?_; refine then_n ?_; refine WP_seq ?_; refine WP_block ?_; refine Wr ?_; refine Tm ?_; refine Tm ?_; refine Ti ?_; refine Tf ?_; refine Tl ?_; refine L_elF ‹_› ‹_› ?_; rintro _ _ _ ⟨xi32_3, xa32_3, po32_3, qo32_3, ps32_3, qs32_3, pc32_3, qc32_3, pn32_3, qn32_3, pm32_3, qm32_3, xw32_3, xv32_3, pf32_3, qf32_3, pr32_3, qr32_3, xe32_3, xf32_3, rfl, vo32_3, vs32_3, vc32_3, vn32_3, vm32_3, vf32_3, vr32_3⟩; refine LV_1 (ty rfl) rfl ?_; refine Tm ?_; refine Ti ?_; refine Tl ?_; refine Le ?_; rintro _ _ _ ⟨xa32_4, xb32_4, xc32_4, xd32_4, xe32_4, xf32_4, rfl⟩; refine Tal ?_; intro b32_5; refine Tw u0 ?_; refine On ?_; refine WP_seq ?_; refine Wr ?_; refine Tf ?_; refine Tl ?_; refine Lo m0 ?_; refine Tm ?_; refine Ugs ?_ ?_ <;> intro c32_6 <;> (first | simp [*] at c32_6; done | try simp at c32_6); (focus (refine Tn ?_; refine Tn ?_; refine Tp1 ?_; refine Tm ?_; refine Tn ?_; refine Tn ?_; refine Tn ?_; refine Tn ?_; refine Tn ?_; refine Tp1 ?_; refine On ?_; refine cond_t rfl ?_; refine WP_exit ?_; refine then_e ?_; refine block_e ?_; refine then_n ?_; refine R_region ?_; refine Tm ?_; refine Ta ?_; refine Tm ?_; refine OPS_nil ?_)); rotate_left 1; (focus (refine Ugf ?_; refine Ugl ?_; refine Lo m0 ?_; refine Tp0 ?_; refine Tm ?_; refine Ugs ?_ ?_ <;> intro c32_7 <;> (first | simp [*] at c32_7; done | try simp at c32_7); (focus (refine Tn ?_; refine Tn ?_; refine Tn ?_; refine Tn ?_; refine Tn ?_; refine Tp1 ?_; refine On ?_; refine cond_t rfl ?_; refine WP_exit ?_; refine then_e ?_; refine block_e ?_; refine then_n ?_; refine R_region ?_; refine Tm ?_; refine Ta ?_; refine Tm ?_; refine OPS_nil ?_)); rotate_left 1; (focus (refine Ugm ?_; refine Ugf ?_; refine Ugl ?_; refine L_sub (Rd.own m0) (ty rfl) rfl ?_; refine S_gc rfl rfl rfl rfl rfl rfl (C_callv (refHas_s (x := (_, _)) ‹_›) rfl rfl ⟨_, _, rfl, ⟨_, _, rfl, rfl, rfl⟩, rfl⟩ (cal rfl) ?_); refine S_gq rfl rfl rfl rfl rfl rfl (Q_not rfl rfl) ?_; refine Tp0 ?_; refine On ?_; refine Wc ?_ ?_ <;> intro c32_8 <;> (first | simp [*] at c32_8; done | try simp at c32_8); (focus (refine WP_exit ?_; refine then_e ?_; refine block_e ?_; refine then_n ?_; refine R_region ?_; refine Tm ?_; refine Ta ?_; refine Tm ?_; refine OPS_nil ?_)); rotate_left 1; (focus (refine WP_skip ?_; refine then_n ?_)); rotate_left 1)); rotate_left 2)); rotate_left 3))
      · rw [c32_6] at hbd
        refine roundF_n (r + 1) (by omega) ⟨hl8, by omega, ?_⟩ (by repeat' first | exact sR _ | exact sA _ _ | exact sN _ | apply s2 | apply s1) (by repeat' first | exact trivial | refine ⟨rfl, ?_⟩)
        rw [← hx, c32_6, hbd]; rfl
      · rw [c32_6, c32_7] at hbd
        refine roundF_n (r + 1) (by omega) ⟨hl8, by omega, ?_⟩ (by repeat' first | exact sR _ | exact sA _ _ | exact sN _ | apply s2 | apply s1) (by repeat' first | exact trivial | refine ⟨rfl, ?_⟩)
        rw [← hx, c32_6, c32_7, hbd]; rfl
      · rw [decide_eq_false c32_8, Bool.false_and, Bool.and_false, Bool.and_false] at hbd
        refine roundF_n (r + 1) (by omega) ⟨hl8, by omega, ?_⟩ (by repeat' first | exact sR _ | exact sA _ _ | exact sN _ | apply s2 | apply s1) (by repeat' first | exact trivial | refine ⟨rfl, ?_⟩)
        rw [← hx, hbd]; rfl
      · rw [c32_6, c32_7, decide_eq_true c32_8] at hbd
        rw [c32_6, c32_7] at hx
        (focus (refine WP_keepM [] [_] _ rfl ?_; rintro h33_k l33_k k33_k; have a33_k := at_of_keep k33_k; clear k33_k; replace hA := hA.up l33_k; replace f2_5 := f2_5.up l33_k; replace f2_1 := f2_1.up l33_k; replace a1_k := a1_k.up l33_k; replace fg0_1 := fg0_1.up l33_k; replace hs := hs.up l33_k; replace f2_2 := f2_2.up l33_k; replace o2_4 := o2_4.up l33_k; replace vo32_1 := vo32_1.up l33_k; replace vs32_1 := vs32_1.up l33_k; replace vc32_1 := vc32_1.up l33_k; replace vn32_1 := vn32_1.up l33_k; replace vm32_1 := vm32_1.up l33_k; replace vf32_1 := vf32_1.up l33_k; replace vr32_1 := vr32_1.up l33_k; replace vo32_3 := vo32_3.up l33_k; replace vs32_3 := vs32_3.up l33_k; replace vc32_3 := vc32_3.up l33_k; replace vn32_3 := vn32_3.up l33_k; replace vm32_3 := vm32_3.up l33_k; replace vf32_3 := vf32_3.up l33_k; replace vr32_3 := vr32_3.up l33_k))
        (focus (refine WP_seq ?_; refine R_draw (n := 14) mixed rfl ?_; refine Va 0 ?_; refine Vm 1 ?_; refine Va 1 ?_; refine Vm 3 ?_; refine Va 2 ?_; refine Vm 7 ?_; refine Va 3 ?_; refine A_q (m' := 15) rfl rfl rfl (Q_indexS ‹_› ‹_› rfl rfl rfl (elm rfl) rfl) rfl (fbL (by decide +kernel)) ?_; refine Va 4 ?_; refine Vf 31 ?_; refine Va 5 ?_; refine Vl 63 ?_; refine L_elF ‹_› ‹_› ?_; rintro _ _ _ ⟨xi34_1, xa34_1, po34_1, qo34_1, ps34_1, qs34_1, pc34_1, qc34_1, pn34_1, qn34_1, pm34_1, qm34_1, xw34_1, xv34_1, pf34_1, qf34_1, pr34_1, qr34_1, xe34_1, xf34_1, rfl, vo34_1, vs34_1, vc34_1, vn34_1, vm34_1, vf34_1, vr34_1⟩; refine LV_1 (ty rfl) rfl ?_; refine Va 6 ?_; refine Vf 127 ?_; refine Va 7 ?_; refine Vl 255 ?_; refine L_sub (Rd.pers ‹_›) (ty rfl) rfl ?_; refine Va 8 ?_; refine A_c (m' := 511) rfl rfl rfl rfl (by decide +kernel) (C_call (refFollow_s ‹_› (by omega)) rfl rfl ⟨_, _, rfl, ⟨_, _, rfl, ⟨_, _, rfl, rfl, rfl⟩, rfl⟩, rfl⟩ (cal rfl) ?_); rintro h34_2 _ l34_2 ⟨p34_2, q34_2, rfl, f34_2⟩; replace a33_k := a33_k.up l34_2; replace hA := hA.up l34_2; replace f2_5 := f2_5.up l34_2; replace f2_1 := f2_1.up l34_2; replace a1_k := a1_k.up l34_2; replace fg0_1 := fg0_1.up l34_2; replace hs := hs.up l34_2; replace f2_2 := f2_2.up l34_2; replace o2_4 := o2_4.up l34_2; replace vo32_1 := vo32_1.up l34_2; replace vs32_1 := vs32_1.up l34_2; replace vc32_1 := vc32_1.up l34_2; replace vn32_1 := vn32_1.up l34_2; replace vm32_1 := vm32_1.up l34_2; replace vf32_1 := vf32_1.up l34_2; replace vr32_1 := vr32_1.up l34_2; replace vo32_3 := vo32_3.up l34_2; replace vs32_3 := vs32_3.up l34_2; replace vc32_3 := vc32_3.up l34_2; replace vn32_3 := vn32_3.up l34_2; replace vm32_3 := vm32_3.up l34_2; replace vf32_3 := vf32_3.up l34_2; replace vr32_3 := vr32_3.up l34_2; replace vo34_1 := vo34_1.up l34_2; replace vs34_1 := vs34_1.up l34_2; replace vc34_1 := vc34_1.up l34_2; replace vn34_1 := vn34_1.up l34_2; replace vm34_1 := vm34_1.up l34_2; replace vf34_1 := vf34_1.up l34_2; replace vr34_1 := vr34_1.up l34_2; refine Va 9 ?_; refine Vm 1023 ?_; refine Va 10 ?_; refine A_q (m' := 2047) rfl rfl rfl (Q_extract rfl rfl rfl) rfl (fbL (by decide +kernel)) ?_; refine Va 11 ?_; refine A_q (m' := 4095) rfl rfl rfl (Q_extract rfl rfl rfl) rfl (fbL (by decide +kernel)) ?_; refine Va 12 ?_; refine Vs 8191 ?_; refine Va 13 ?_; refine Vs 16383 ?_; refine A_done (by decide +kernel) ?_; refine then_n ?_; refine Wr ?_; refine Tm ?_; refine Tc ?_; refine On ?_; refine Wc ?_ ?_ <;> intro c34_3 <;> (first | simp [*] at c34_3; done | try simp at c34_3); (focus (refine Wr ?_; refine Tm ?_; refine On ?_; refine WP_ret ?_; refine block_r ?_; refine then_r ?_; refine roundF_r ?_; refine block_r ?_; refine block_r ?_; refine then_r ?_; refine roundF_r ?_; refine block_r ?_; refine then_r ?_)); rotate_left 1; (focus (refine WP_skip ?_; refine block_n ?_; refine then_n ?_; refine R_region ?_; refine Tm ?_; refine Ta ?_; refine Tm ?_; refine OPS_nil ?_)); rotate_left 1))
        · rw [decide_eq_true c34_3] at hbd
          have hy : vs.any (fun v => v.stubs.any (badStub vs live v)) = true := by rw [← hv, ← hx, hbd]; rfl
          refine pret (.inl rfl) rfl ⟨_, _, rfl, rfl, rfl⟩ ?_
          simp only [resOf]; rw [hsafe, if_pos hy]
        · rw [decide_eq_false (fun e => e c34_3)] at hbd
          refine roundF_n (r + 1) (by omega) ⟨le_trans hl8 (le_trans l33_k l34_2), by omega, ?_⟩ (by repeat' first | exact sR _ | exact sA _ _ | exact sN _ | apply s2 | apply s1) (by repeat' first | exact trivial | refine ⟨rfl, ?_⟩)
          rw [← hx, hbd]; rfl
    have hge : r = v.stubs.length := by omega
    subst hge
    rw [List.drop_length] at hx
    (focus (refine WP_seq ?_; refine Wr ?_; refine Tm ?_; refine Tm ?_; refine Tm ?_; refine Ti ?_; refine Tf ?_; refine Tl ?_; refine L_elF ‹_› ‹_› ?_; rintro _ _ _ ⟨xi35_1, xa35_1, po35_1, qo35_1, ps35_1, qs35_1, pc35_1, qc35_1, pn35_1, qn35_1, pm35_1, qm35_1, xw35_1, xv35_1, pf35_1, qf35_1, pr35_1, qr35_1, xe35_1, xf35_1, rfl, vo35_1, vs35_1, vc35_1, vn35_1, vm35_1, vf35_1, vr35_1⟩; refine LV_1 (ty rfl) rfl ?_; refine Tlen ?_; refine Tc ?_; refine On ?_; refine Wc ?_ ?_ <;> intro c35_2 <;> (first | simp [*] at c35_2; done | try simp at c35_2); refine WP_exit ?_; refine then_e ?_; refine roundF_e ?_; refine block_e ?_; refine block_n ?_; refine then_n ?_; refine R_region ?_; refine Tm ?_; refine Ta ?_; refine Tm ?_; refine OPS_nil ?_))
    refine roundF_n (k + 1) (by omega) ⟨le_trans hl7 hl8, by omega, ?_⟩ (by repeat' first | exact sR _ | exact sA _ _ | exact sN _ | apply s2 | apply s1) (by repeat' first | exact trivial | refine ⟨rfl, ?_⟩)
    rw [← hv, ← hx]; rfl
  have hge : k = vs.length := by omega
  subst hge
  rw [List.drop_length] at hv
  have hno3 : vs.any (fun v => v.stubs.any (badStub vs live v)) = false := by rw [← hv]; rfl
  rw [hno3] at hsafe
  (focus (refine WP_seq ?_; refine Wr ?_; refine Tm ?_; refine Tm ?_; refine Tlen ?_; refine Tc ?_; refine On ?_; refine Wc ?_ ?_ <;> intro c36_1 <;> (first | simp [*] at c36_1; done | try simp at c36_1); refine WP_exit ?_; refine then_e ?_; refine roundF_e ?_; refine block_e ?_; refine then_n ?_; refine Wr ?_; refine Tm ?_; refine On ?_; refine WP_ret ?_))
  refine pret (.inl rfl) rfl ⟨_, _, rfl, rfl, rfl⟩ ?_
  simp only [resOf]; rw [hsafe]; rfl
end Go.Proofs.YtfhoecgiahpddaaGreat
